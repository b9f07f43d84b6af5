/- What the functions tell, as plain functions on typed values. -/
import Derived.Test.YtefanbolbeplmaaGreatAvBarrierMakesK2
namespace Go.Av
set_option linter.unusedSectionVars false
set_option linter.unusedSimpArgs false
set_option linter.unusedVariables false
abbrev E_A16_i64 (x : Vector Int 16) : V := .arr 1 (x.toList.map (V.int .i64))
theorem ty_A16_i64 : TyOk E_A16_i64 16 true := TyOk.arr (k := 16) (TyOk.int .i64)
abbrev E_A16_A16_i64 (x : Vector (Vector Int 16) 16) : V := .arr 16 (x.toList.map E_A16_i64)
theorem ty_A16_A16_i64 : TyOk E_A16_A16_i64 256 true := TyOk.arr (k := 16) ty_A16_i64
structure TRights where
  Given : Vector Int 16
  Used : Vector Int 16
  Moved : Vector (Vector Int 16) 16
  deriving DecidableEq, Inhabited
abbrev E_TRights (x : TRights) : V := .st [E_A16_i64 x.Given, E_A16_i64 x.Used, E_A16_A16_i64 x.Moved]
theorem ty_TRights : TyOk E_TRights 288 true := ⟨fun x => fl_st (flL_c (ty_A16_i64.fl _) (flL_c (ty_A16_i64.fl _) (flL_c (ty_A16_A16_i64.fl _) flL_nil))), fun _ => rfl, fun _ => rfl, fun x m => lt_st (ltL_c (ty_A16_i64.lt _ _) (ltL_c (ty_A16_i64.lt _ _) (ltL_c (ty_A16_A16_i64.lt _ _) ltL_nil))), fun _ => rfl⟩
structure TCounter where
  Init : Int
  Low : Int
  High : Int
  Down : TRights
  Up : TRights
  deriving DecidableEq, Inhabited
abbrev E_TCounter (x : TCounter) : V := .st [(V.int .i64) x.Init, (V.int .i64) x.Low, (V.int .i64) x.High, E_TRights x.Down, E_TRights x.Up]
theorem ty_TCounter : TyOk E_TCounter 579 true := ⟨fun x => fl_st (flL_c ((TyOk.int .i64).fl _) (flL_c ((TyOk.int .i64).fl _) (flL_c ((TyOk.int .i64).fl _) (flL_c (ty_TRights.fl _) (flL_c (ty_TRights.fl _) flL_nil))))), fun _ => rfl, fun _ => rfl, fun x m => lt_st (ltL_c ((TyOk.int .i64).lt _ _) (ltL_c ((TyOk.int .i64).lt _ _) (ltL_c ((TyOk.int .i64).lt _ _) (ltL_c (ty_TRights.lt _ _) (ltL_c (ty_TRights.lt _ _) ltL_nil))))), fun _ => rfl⟩
structure TLock where
  Seq : Int
  Ver : Int
  Holder : Int
  Value : Int
  deriving DecidableEq, Inhabited
abbrev E_TLock (x : TLock) : V := .st [(V.int .i64) x.Seq, (V.int .i64) x.Ver, (V.int .i64) x.Holder, (V.int .i64) x.Value]
theorem ty_TLock : TyOk E_TLock 4 true := ⟨fun x => fl_st (flL_c ((TyOk.int .i64).fl _) (flL_c ((TyOk.int .i64).fl _) (flL_c ((TyOk.int .i64).fl _) (flL_c ((TyOk.int .i64).fl _) flL_nil)))), fun _ => rfl, fun _ => rfl, fun x m => lt_st (ltL_c ((TyOk.int .i64).lt _ _) (ltL_c ((TyOk.int .i64).lt _ _) (ltL_c ((TyOk.int .i64).lt _ _) (ltL_c ((TyOk.int .i64).lt _ _) ltL_nil)))), fun _ => rfl⟩
structure THold where
  Replica : Int
  Number : Int
  Amount : Int
  Due : Int
  State : Int
  deriving DecidableEq, Inhabited
abbrev E_THold (x : THold) : V := .st [(V.int .i64) x.Replica, (V.int .i64) x.Number, (V.int .i64) x.Amount, (V.int .i64) x.Due, (V.int .i64) x.State]
theorem ty_THold : TyOk E_THold 5 true := ⟨fun x => fl_st (flL_c ((TyOk.int .i64).fl _) (flL_c ((TyOk.int .i64).fl _) (flL_c ((TyOk.int .i64).fl _) (flL_c ((TyOk.int .i64).fl _) (flL_c ((TyOk.int .i64).fl _) flL_nil))))), fun _ => rfl, fun _ => rfl, fun x m => lt_st (ltL_c ((TyOk.int .i64).lt _ _) (ltL_c ((TyOk.int .i64).lt _ _) (ltL_c ((TyOk.int .i64).lt _ _) (ltL_c ((TyOk.int .i64).lt _ _) (ltL_c ((TyOk.int .i64).lt _ _) ltL_nil))))), fun _ => rfl⟩
abbrev E_S_THold (x : List THold) : V := .sl 5 .no (x.map E_THold)
theorem ty_S_THold : TyOk E_S_THold 1 false := TyOk.sl ty_THold
structure TField where
  Name : ByteArray
  Kind : Int
  Epoch : Int
  Counter : TCounter
  Lock : TLock
  Holds : List THold
  deriving DecidableEq, Inhabited
abbrev E_TField (x : TField) : V := .st [V.str x.Name, (V.int .i64) x.Kind, (V.int .i64) x.Epoch, E_TCounter x.Counter, E_TLock x.Lock, E_S_THold x.Holds]
theorem ty_TField : TyOk E_TField 587 true := ⟨fun x => fl_st (flL_c (TyOk.str.fl _) (flL_c ((TyOk.int .i64).fl _) (flL_c ((TyOk.int .i64).fl _) (flL_c (ty_TCounter.fl _) (flL_c (ty_TLock.fl _) (flL_c (ty_S_THold.fl _) flL_nil)))))), fun _ => rfl, fun _ => rfl, fun x m => lt_st (ltL_c (TyOk.str.lt _ _) (ltL_c ((TyOk.int .i64).lt _ _) (ltL_c ((TyOk.int .i64).lt _ _) (ltL_c (ty_TCounter.lt _ _) (ltL_c (ty_TLock.lt _ _) (ltL_c (ty_S_THold.lt _ _) ltL_nil)))))), fun _ => rfl⟩
abbrev E_S_TField (x : List TField) : V := .sl 587 .no (x.map E_TField)
theorem ty_S_TField : TyOk E_S_TField 1 false := TyOk.sl ty_TField
structure TPlan where
  Kind : Int
  Name : ByteArray
  Other : ByteArray
  A : Int
  B : Int
  deriving DecidableEq, Inhabited
abbrev E_TPlan (x : TPlan) : V := .st [(V.int .i64) x.Kind, V.str x.Name, V.str x.Other, (V.int .i64) x.A, (V.int .i64) x.B]
theorem ty_TPlan : TyOk E_TPlan 5 true := ⟨fun x => fl_st (flL_c ((TyOk.int .i64).fl _) (flL_c (TyOk.str.fl _) (flL_c (TyOk.str.fl _) (flL_c ((TyOk.int .i64).fl _) (flL_c ((TyOk.int .i64).fl _) flL_nil))))), fun _ => rfl, fun _ => rfl, fun x m => lt_st (ltL_c ((TyOk.int .i64).lt _ _) (ltL_c (TyOk.str.lt _ _) (ltL_c (TyOk.str.lt _ _) (ltL_c ((TyOk.int .i64).lt _ _) (ltL_c ((TyOk.int .i64).lt _ _) ltL_nil))))), fun _ => rfl⟩
structure Tbarrier_Barrier where
  N : Int
  State : Int
  Number : Int
  Epoch : Int
  Plan : TPlan
  Due : Int
  Acked : Int
  Told : Int
  Joined : List TField
  Made : List TField
  deriving DecidableEq, Inhabited
abbrev E_Tbarrier_Barrier (x : Tbarrier_Barrier) : V := .st [(V.int .i64) x.N, (V.int .i64) x.State, (V.int .i64) x.Number, (V.int .i64) x.Epoch, E_TPlan x.Plan, (V.int .i64) x.Due, (V.int .i64) x.Acked, (V.int .i64) x.Told, E_S_TField x.Joined, E_S_TField x.Made]
theorem ty_Tbarrier_Barrier : TyOk E_Tbarrier_Barrier 14 true := ⟨fun x => fl_st (flL_c ((TyOk.int .i64).fl _) (flL_c ((TyOk.int .i64).fl _) (flL_c ((TyOk.int .i64).fl _) (flL_c ((TyOk.int .i64).fl _) (flL_c (ty_TPlan.fl _) (flL_c ((TyOk.int .i64).fl _) (flL_c ((TyOk.int .i64).fl _) (flL_c ((TyOk.int .i64).fl _) (flL_c (ty_S_TField.fl _) (flL_c (ty_S_TField.fl _) flL_nil)))))))))), fun _ => rfl, fun _ => rfl, fun x m => lt_st (ltL_c ((TyOk.int .i64).lt _ _) (ltL_c ((TyOk.int .i64).lt _ _) (ltL_c ((TyOk.int .i64).lt _ _) (ltL_c ((TyOk.int .i64).lt _ _) (ltL_c (ty_TPlan.lt _ _) (ltL_c ((TyOk.int .i64).lt _ _) (ltL_c ((TyOk.int .i64).lt _ _) (ltL_c ((TyOk.int .i64).lt _ _) (ltL_c (ty_S_TField.lt _ _) (ltL_c (ty_S_TField.lt _ _) ltL_nil)))))))))), fun _ => rfl⟩
abbrev E_A2_i64 (x : Vector Int 2) : V := .arr 1 (x.toList.map (V.int .i64))
theorem ty_A2_i64 : TyOk E_A2_i64 2 true := TyOk.arr (k := 2) (TyOk.int .i64)
abbrev E_A2_A2_i64 (x : Vector (Vector Int 2) 2) : V := .arr 2 (x.toList.map E_A2_i64)
theorem ty_A2_A2_i64 : TyOk E_A2_A2_i64 4 true := TyOk.arr (k := 2) ty_A2_i64
theorem eqk_TLock : EqOk E_TLock := ⟨fun x y => eqv_st (eqv_c ((eqk_int _).is _ _) (eqv_c ((eqk_int _).is _ _) (eqv_c ((eqk_int _).is _ _) (eqv_c ((eqk_int _).is _ _) eqv_nil)))) (by cases x; cases y; simp [Bool.decide_and])⟩
theorem shk_TLock : ShOk E_TLock (.st [(0, .int .i64), (1, .int .i64), (2, .int .i64), (3, .int .i64)] 4) := ⟨fun x => hasSh_st (flL_c ((TyOk.int .i64).fl x.Seq) (flL_c ((TyOk.int .i64).fl x.Ver) (flL_c ((TyOk.int .i64).fl x.Holder) (flL_c ((TyOk.int .i64).fl x.Value) flL_nil)))) (hasShF_c rfl ((shk_int _).is _) ((TyOk.int .i64).fl x.Seq) (hasShF_c rfl ((shk_int _).is _) ((TyOk.int .i64).fl x.Ver) (hasShF_c rfl ((shk_int _).is _) ((TyOk.int .i64).fl x.Holder) (hasShF_c rfl ((shk_int _).is _) ((TyOk.int .i64).fl x.Value) hasShF_nil))))⟩
theorem eqk_A16_i64 : EqOk E_A16_i64 := eqk_arr (eqk_int _)
theorem shk_A16_i64 : ShOk E_A16_i64 (.arr 16 1 (.int .i64)) := shk_arr (shk_int _)
theorem eqk_A16_A16_i64 : EqOk E_A16_A16_i64 := eqk_arr eqk_A16_i64
theorem shk_A16_A16_i64 : ShOk E_A16_A16_i64 (.arr 16 16 (.arr 16 1 (.int .i64))) := shk_arr shk_A16_i64
theorem eqk_TRights : EqOk E_TRights := ⟨fun x y => eqv_st (eqv_c (eqk_A16_i64.is _ _) (eqv_c (eqk_A16_i64.is _ _) (eqv_c (eqk_A16_A16_i64.is _ _) eqv_nil))) (by cases x; cases y; simp [Bool.decide_and])⟩
theorem shk_TRights : ShOk E_TRights (.st [(0, .arr 16 1 (.int .i64)), (16, .arr 16 1 (.int .i64)), (32, .arr 16 16 (.arr 16 1 (.int .i64)))] 288) := ⟨fun x => hasSh_st (flL_c (ty_A16_i64.fl x.Given) (flL_c (ty_A16_i64.fl x.Used) (flL_c (ty_A16_A16_i64.fl x.Moved) flL_nil))) (hasShF_c rfl (shk_A16_i64.is _) (ty_A16_i64.fl x.Given) (hasShF_c rfl (shk_A16_i64.is _) (ty_A16_i64.fl x.Used) (hasShF_c rfl (shk_A16_A16_i64.is _) (ty_A16_A16_i64.fl x.Moved) hasShF_nil)))⟩
theorem eqk_TCounter : EqOk E_TCounter := ⟨fun x y => eqv_st (eqv_c ((eqk_int _).is _ _) (eqv_c ((eqk_int _).is _ _) (eqv_c ((eqk_int _).is _ _) (eqv_c (eqk_TRights.is _ _) (eqv_c (eqk_TRights.is _ _) eqv_nil))))) (by cases x; cases y; simp [Bool.decide_and])⟩
theorem shk_TCounter : ShOk E_TCounter (.st [(0, .int .i64), (1, .int .i64), (2, .int .i64), (3, .st [(0, .arr 16 1 (.int .i64)), (16, .arr 16 1 (.int .i64)), (32, .arr 16 16 (.arr 16 1 (.int .i64)))] 288), (291, .st [(0, .arr 16 1 (.int .i64)), (16, .arr 16 1 (.int .i64)), (32, .arr 16 16 (.arr 16 1 (.int .i64)))] 288)] 579) := ⟨fun x => hasSh_st (flL_c ((TyOk.int .i64).fl x.Init) (flL_c ((TyOk.int .i64).fl x.Low) (flL_c ((TyOk.int .i64).fl x.High) (flL_c (ty_TRights.fl x.Down) (flL_c (ty_TRights.fl x.Up) flL_nil))))) (hasShF_c rfl ((shk_int _).is _) ((TyOk.int .i64).fl x.Init) (hasShF_c rfl ((shk_int _).is _) ((TyOk.int .i64).fl x.Low) (hasShF_c rfl ((shk_int _).is _) ((TyOk.int .i64).fl x.High) (hasShF_c rfl (shk_TRights.is _) (ty_TRights.fl x.Down) (hasShF_c rfl (shk_TRights.is _) (ty_TRights.fl x.Up) hasShF_nil)))))⟩
abbrev E_S_s (x : List ByteArray) : V := .sl 1 .no (x.map V.str)
theorem ty_S_s : TyOk E_S_s 1 false := TyOk.sl TyOk.str
abbrev E_A4_A2_i64 (x : Vector (Vector Int 2) 4) : V := .arr 2 (x.toList.map E_A2_i64)
theorem ty_A4_A2_i64 : TyOk E_A4_A2_i64 8 true := TyOk.arr (k := 4) ty_A2_i64
theorem eqk_THold : EqOk E_THold := ⟨fun x y => eqv_st (eqv_c ((eqk_int _).is _ _) (eqv_c ((eqk_int _).is _ _) (eqv_c ((eqk_int _).is _ _) (eqv_c ((eqk_int _).is _ _) (eqv_c ((eqk_int _).is _ _) eqv_nil))))) (by cases x; cases y; simp [Bool.decide_and])⟩
theorem shk_THold : ShOk E_THold (.st [(0, .int .i64), (1, .int .i64), (2, .int .i64), (3, .int .i64), (4, .int .i64)] 5) := ⟨fun x => hasSh_st (flL_c ((TyOk.int .i64).fl x.Replica) (flL_c ((TyOk.int .i64).fl x.Number) (flL_c ((TyOk.int .i64).fl x.Amount) (flL_c ((TyOk.int .i64).fl x.Due) (flL_c ((TyOk.int .i64).fl x.State) flL_nil))))) (hasShF_c rfl ((shk_int _).is _) ((TyOk.int .i64).fl x.Replica) (hasShF_c rfl ((shk_int _).is _) ((TyOk.int .i64).fl x.Number) (hasShF_c rfl ((shk_int _).is _) ((TyOk.int .i64).fl x.Amount) (hasShF_c rfl ((shk_int _).is _) ((TyOk.int .i64).fl x.Due) (hasShF_c rfl ((shk_int _).is _) ((TyOk.int .i64).fl x.State) hasShF_nil)))))⟩
def usufructlaw07_Few_L1 (a1 : List TField) (s3 : Int) : Option (Int ⊕ (Unit ⊕ Bool)) :=
  if (decide (s3 < (a1.length : Int))) = true then
      Option.bind (six a1 s3) fun j5 =>
      letM (a1.getD j5 default) fun v6 =>
      letM ((decide (100 < (v6.Name.size : Int))) || (decide (40 < (v6.Holds.length : Int)))) fun v7 =>
      if v7 = true then
        some (.inr (.inr false))
      else
        some (.inl (wr .i64 (s3 + 1)))
    else
      some (.inr (.inl ()))
def usufructlaw07_Few (a1 : List TField) : Option (Bool) :=
  Option.bind (loopM (usufructlaw07_Few_L1 a1) fuel 0) (onS (fun x4 => some true)
  (fun r => some r))
def usufructlaw13_Few (a1 : List TField) (a2 : TPlan) : Option (Bool) :=
  Option.bind (gd ((decide ((a1.length : Int) ≤ 8)) = true) (usufructlaw07_Few a1)) fun r3 =>
  letM (((decide ((a1.length : Int) ≤ 8)) && r3) && (decide ((a2.Name.size : Int) ≤ 100))) fun v4 =>
  letM (v4 && (decide ((a2.Other.size : Int) ≤ 100))) fun v5 =>
  some v5
def num_Is (a1 : Int) : Option (Bool) :=
  letM ((decide ((-1099511627776) ≤ a1)) && (decide (a1 ≤ 1099511627776))) fun v2 =>
  some v2
def num_checked_L1 (l3 : List Int) (s5 : Int) : Option (Int ⊕ (Unit ⊕ (Int × Int))) :=
  if (decide (s5 < (l3.length : Int))) = true then
      Option.bind (six l3 s5) fun j7 =>
      Option.bind (num_Is (l3.getD j7 default)) fun r8 =>
      if (!r8) = true then
        some (.inr (.inr (0, 2)))
      else
        some (.inl (wr .i64 (s5 + 1)))
    else
      some (.inr (.inl ()))
def num_checked (a1 : Int) (a2 : List Int) : Option (Int × Int) :=
  Option.bind (app 8 a2 [a1]) fun l3 =>
  Option.bind (loopM (num_checked_L1 l3) fuel 0) (onS (fun x6 => some (a1, 0))
  (fun r => some r))
def num_Sub (a1 : Int) (a2 : Int) : Option (Int × Int) :=
  Option.bind (num_checked (wr .i64 (a1 - a2)) [a1, a2]) fun r3 =>
  some (r3.1, r3.2)
def counter_New (a1 : Int) (a2 : Int) (a3 : Int) : Option (TCounter × Int) :=
  letM (⟨a1, a2, a3, (default : TRights), (default : TRights)⟩ : TCounter) fun v4 =>
  Option.bind (num_Sub a1 a2) fun r5 =>
  Option.bind (num_Sub a3 a1) fun r6 =>
  Option.bind (num_Sub a3 a2) fun r7 =>
  letM (((!decide (r5.2 = 0)) || (!decide (r6.2 = 0))) || (!decide (r7.2 = 0))) fun v8 =>
  if ((v8 || (decide (r5.1 < 0))) || (decide (r6.1 < 0))) = true then
    letM (⟨0, 0, 0, (default : TRights), (default : TRights)⟩ : TCounter) fun v9 =>
    some (v9, 2)
  else
    Option.bind (fix_ 16 0) fun k10 =>
    letM ({ v4 with Down := { v4.Down with Given := (v4.Down.Given.set k10.val r5.1) } }) fun v11 =>
    Option.bind (fix_ 16 0) fun k12 =>
    letM ({ v11 with Up := { v11.Up with Given := (v11.Up.Given.set k12.val r6.1) } }) fun v13 =>
    some (v13, 0)
def field_Name_L1 (a1 : ByteArray) (s3 : Int) : Option (Int ⊕ (Unit ⊕ Bool)) :=
  if (decide (s3 < (a1.size : Int))) = true then
      Option.bind (bix a1 s3) fun n5 =>
      Option.bind (gd ((decide (n5 < 33)) = false) (bix a1 s3)) fun n6 =>
      if ((decide (n5 < 33)) || (decide (126 < n6))) = true then
        some (.inr (.inr false))
      else
        some (.inl (wr .i64 (s3 + 1)))
    else
      some (.inr (.inl ()))
def field_Name (a1 : ByteArray) : Option (Bool) :=
  Option.bind (loopM (field_Name_L1 a1) fuel 0) (onS (fun x4 => letM ((decide (1 ≤ (a1.size : Int))) && (decide ((a1.size : Int) ≤ 8))) fun v7 =>
    some v7)
  (fun r => some r))
def field_done (a1 : TField) (a2 : Int) : Option (TField × Int) :=
  if (!decide (a2 = 0)) = true then
    letM (⟨(default : ByteArray), 0, 0, (default : TCounter), (default : TLock), ([] : List THold)⟩ : TField) fun v3 =>
    some (v3, a2)
  else
    Option.bind (app 40 [] a1.Holds) fun r4 =>
    letM ({ a1 with Holds := r4 }) fun v5 =>
    some (v5, 0)
def field_Counter (a1 : ByteArray) (a2 : Int) (a3 : Int) (a4 : Int) : Option (TField × Int) :=
  Option.bind (counter_New a2 a3 a4) fun r5 =>
  Option.bind (field_Name a1) fun r6 =>
  if (!r6) = true then
    letM (⟨a1, 1, 0, r5.1, (default : TLock), ([] : List THold)⟩ : TField) fun v7 =>
    Option.bind (field_done v7 1) fun r8 =>
    some (r8.1, r8.2)
  else
    letM (⟨a1, 1, 0, r5.1, (default : TLock), ([] : List THold)⟩ : TField) fun v9 =>
    Option.bind (field_done v9 r5.2) fun r10 =>
    some (r10.1, r10.2)
def barrier_New (a1 : Int) : Option (Tbarrier_Barrier × Int) :=
  if ((decide (a1 < 2)) || (decide (16 < a1))) = true then
    letM (⟨0, 0, 0, 0, (default : TPlan), 0, 0, 0, ([] : List TField), ([] : List TField)⟩ : Tbarrier_Barrier) fun v2 =>
    some (v2, 1)
  else
    letM (⟨a1, 0, 0, 0, (default : TPlan), 0, 0, 0, ([] : List TField), ([] : List TField)⟩ : Tbarrier_Barrier) fun v3 =>
    some (v3, 0)
def barrier_Barrier_all (a1 : Tbarrier_Barrier) : Option (Int) :=
  Option.bind (sh0 (min (max a1.N 0) 16)) fun u2 =>
  letM (wr .i64 ((iShl .i64 1 (min (max a1.N 0) 16)) - 1)) fun v3 =>
  some v3
def barrier_Pending (a1 : Tbarrier_Barrier) : Option (Bool) :=
  Option.bind (gd (((decide (a1.State = 1)) = false) ∧ ((decide (a1.State = 2)) || (decide (a1.State = 3))) = true) (barrier_Barrier_all a1)) fun r2 =>
  letM ((decide (a1.State = 1)) || (((decide (a1.State = 2)) || (decide (a1.State = 3))) && (!decide (a1.Told = r2)))) fun v3 =>
  some v3
def vec_Right_L1 (a1 : Vector Int 16) (s3 : Int) : Option (Int ⊕ (Unit ⊕ Bool)) :=
  if (decide (s3 < 16)) = true then
      Option.bind (fix_ 16 s3) fun k5 =>
      Option.bind (gd ((decide ((a1.get k5) < 0)) = false) (num_Is (a1.get k5))) fun r6 =>
      if ((decide ((a1.get k5) < 0)) || (!r6)) = true then
        some (.inr (.inr false))
      else
        some (.inl (wr .i64 (s3 + 1)))
    else
      some (.inr (.inl ()))
def vec_Right (a1 : Vector Int 16) : Option (Bool) :=
  Option.bind (loopM (vec_Right_L1 a1) fuel 0) (onS (fun x4 => some true)
  (fun r => some r))
def rights_Right_L1 (a1 : TRights) (s5 : Int) : Option (Int ⊕ (Unit ⊕ Bool)) :=
  if (decide (s5 < 16)) = true then
        Option.bind (fix_ 16 s5) fun k7 =>
        letM (a1.Moved.get k7) fun v8 =>
        Option.bind (vec_Right v8) fun r9 =>
        Option.bind (gd ((!r9) = false) (fix_ 16 s5)) fun k10 =>
        if ((!r9) || (!decide ((v8.get k10) = 0))) = true then
          some (.inr (.inr false))
        else
          some (.inl (wr .i64 (s5 + 1)))
      else
        some (.inr (.inl ()))
def rights_Right (a1 : TRights) : Option (Bool) :=
  Option.bind (vec_Right a1.Given) fun r2 =>
  Option.bind (gd ((!r2) = false) (vec_Right a1.Used)) fun r3 =>
  if ((!r2) || (!r3)) = true then
    some false
  else
    Option.bind (loopM (rights_Right_L1 a1) fuel 0) (onS (fun x6 => some true)
    (fun r => some r))
def num_Add (a1 : Int) (a2 : Int) : Option (Int × Int) :=
  Option.bind (num_checked (wr .i64 (a1 + a2)) [a1, a2]) fun r3 =>
  some (r3.1, r3.2)
def num_Must (a1 : Int) (a2 : Int) : Option (Int) :=
  if (!decide (a2 = 0)) = true then
    none
  else
    some a1
def num_Sum_1_L1 (a1 : List Int) (s3 : Int × Int) : Option ((Int × Int) ⊕ Int) :=
  if (decide (s3.1 < (a1.length : Int))) = true then
      Option.bind (six a1 s3.1) fun j5 =>
      Option.bind (num_Add s3.2 (a1.getD j5 default)) fun r6 =>
      Option.bind (num_Must r6.1 r6.2) fun r7 =>
      some (.inl ((wr .i64 (s3.1 + 1)), r7))
    else
      some (.inr s3.2)
def num_Sum_1 (a1 : List Int) : Option (Int) :=
  Option.bind (loopM (num_Sum_1_L1 a1) fuel (0, 0)) fun x4 =>
  some x4
def num_Sum_P_L1 (a1 : List Int) (s3 : Int × Int) : Option ((Int × Int) ⊕ Int) :=
  if (decide (s3.1 < (a1.length : Int))) = true then
      Option.bind (six a1 s3.1) fun j5 =>
      Option.bind (num_Add s3.2 (a1.getD j5 default)) fun r6 =>
      if (decide (r6.2 = 0)) = true then some (.inl ((wr .i64 (s3.1 + 1)), r6.1)) else some (.inr r6.2)
    else
      none
def num_Sum_P (a1 : List Int) : Option Int := loopM (num_Sum_P_L1 a1) fuel (0, 0)
def num_Sum (a1 : List Int) : Option (Int × Int) :=
  Option.bind (tryM (num_Sum_1 a1) (num_Sum_P a1)) fun r2 =>
  some (r2.1, r2.2)
def vec_Sum (a1 : Vector Int 16) : Option (Int × Int) :=
  Option.bind (num_Sum a1.toList) fun r2 =>
  some (r2.1, r2.2)
def counter_given (a1 : TRights) (a2 : TRights) (a3 : Int) : Option (Bool) :=
  Option.bind (vec_Sum a1.Given) fun r4 =>
  Option.bind (vec_Sum a2.Used) fun r5 =>
  Option.bind (num_Add a3 r5.1) fun r6 =>
  letM ((((decide (r4.2 = 0)) && (decide (r5.2 = 0))) && (decide (r6.2 = 0))) && (decide (r4.1 = r6.1))) fun v7 =>
  some v7
def counter_Right (a1 : TCounter) : Option (Bool) :=
  Option.bind (num_Is a1.Init) fun r2 =>
  Option.bind (gd ((!r2) = false) (num_Is a1.Low)) fun r3 =>
  Option.bind (gd (((!r2) || (!r3)) = false) (num_Is a1.High)) fun r4 =>
  letM (((((!r2) || (!r3)) || (!r4)) || (decide (a1.Init < a1.Low))) || (decide (a1.High < a1.Init))) fun v5 =>
  if v5 = true then
    some false
  else
    Option.bind (rights_Right a1.Down) fun r6 =>
    Option.bind (gd (r6 = true) (rights_Right a1.Up)) fun r7 =>
    Option.bind (gd ((r6 && r7) = true) (counter_given a1.Down a1.Up (wr .i64 (a1.Init - a1.Low)))) fun r8 =>
    Option.bind (gd (((r6 && r7) && r8) = true) (counter_given a1.Up a1.Down (wr .i64 (a1.High - a1.Init)))) fun r9 =>
    letM (((r6 && r7) && r8) && r9) fun v10 =>
    some v10
def hold_count (a1 : Int) : Option (Bool) :=
  Option.bind (gd ((decide (0 ≤ a1)) = true) (num_Is a1)) fun r2 =>
  letM ((decide (0 ≤ a1)) && r2) fun v3 =>
  some v3
def hold_Right (a1 : THold) : Option (Bool) :=
  letM (((decide (0 ≤ a1.Replica)) && (decide (a1.Replica < 16))) && (decide (1 ≤ a1.Number))) fun v2 =>
  Option.bind (gd (v2 = true) (num_Is a1.Number)) fun r3 =>
  Option.bind (gd ((v2 && r3) = true) (hold_count a1.Amount)) fun r4 =>
  Option.bind (gd (((v2 && r3) && r4) = true) (hold_count a1.Due)) fun r5 =>
  letM (((((v2 && r3) && r4) && r5) && (decide (1 ≤ a1.State))) && (decide (a1.State ≤ 3))) fun v6 =>
  some v6
def hold_compare_L1 (a1 : THold) (a2 : THold) (s4 : Int) : Option (Int ⊕ (Unit ⊕ Int)) :=
  if (decide (s4 < 2)) = true then
      Option.bind (fix_ 2 s4) fun k6 =>
      letM ((#v[(#v[a1.Replica, a2.Replica] : Vector Int 2), (#v[a1.Number, a2.Number] : Vector Int 2)] : Vector (Vector Int 2) 2).get k6) fun v7 =>
      Option.bind (fix_ 2 0) fun k8 =>
      Option.bind (fix_ 2 1) fun k9 =>
      if (!decide ((v7.get k8) = (v7.get k9))) = true then
        Option.bind (fix_ 2 0) fun k10 =>
        Option.bind (fix_ 2 1) fun k11 =>
        if (decide ((v7.get k10) < (v7.get k11))) = true then
          some (.inr (.inr (-1)))
        else
          some (.inr (.inr 1))
      else
        some (.inl (wr .i64 (s4 + 1)))
    else
      some (.inr (.inl ()))
def hold_compare (a1 : THold) (a2 : THold) : Option (Int) :=
  Option.bind (loopM (hold_compare_L1 a1 a2) fuel 0) (onS (fun x5 => some 0)
  (fun r => some r))
def holdCmp (a b : THold) : Int := if a.Replica = b.Replica then (if a.Number = b.Number then 0 else if a.Number < b.Number then -1 else 1) else if a.Replica < b.Replica then -1 else 1
theorem hold_compare_eq (a b : THold) : hold_compare a b = some (holdCmp a b) := by
  have e0 : fix_ 2 0 = some (0 : Fin 2) := rfl
  have e1 : fix_ 2 1 = some (1 : Fin 2) := rfl
  have w0 : wr .i64 1 = 1 := by decide
  have w1 : wr .i64 2 = 2 := by decide
  have v0 : ∀ x y : Int, (#v[x, y] : Vector Int 2).get 0 = x := fun _ _ => rfl
  have v1 : ∀ x y : Int, (#v[x, y] : Vector Int 2).get 1 = y := fun _ _ => rfl
  have u0 : ∀ x y : Vector Int 2, (#v[x, y] : Vector (Vector Int 2) 2).get 0 = x := fun _ _ => rfl
  have u1 : ∀ x y : Vector Int 2, (#v[x, y] : Vector (Vector Int 2) 2).get 1 = y := fun _ _ => rfl
  have h0 : hold_compare_L1 a b 0 = if a.Replica = b.Replica then some (.inl 1) else if a.Replica < b.Replica then some (.inr (.inr (-1))) else some (.inr (.inr 1)) := by
    unfold hold_compare_L1
    simp [e0, e1, letM, w0, v0, v1, u0]
  have h1 : hold_compare_L1 a b 1 = if a.Number = b.Number then some (.inl 2) else if a.Number < b.Number then some (.inr (.inr (-1))) else some (.inr (.inr 1)) := by
    unfold hold_compare_L1
    simp [e0, e1, letM, w1, v0, v1, u1]
  have h2 : hold_compare_L1 a b 2 = some (.inr (.inl ())) := by unfold hold_compare_L1; simp
  unfold hold_compare holdCmp
  have hf : fuel = 1180591620717411303421 + 3 := rfl
  rw [hf]
  by_cases c0 : a.Replica = b.Replica
  · by_cases c1 : a.Number = b.Number
    · simp [loopM, h0, h1, h2, c0, c1, onS]
    · by_cases c2 : a.Number < b.Number <;> simp [loopM, h0, h1, c0, c1, c2, onS]
  · by_cases c2 : a.Replica < b.Replica <;> simp [loopM, h0, c0, c2, onS]
theorem holdCmp_lt (a b : THold) : Go.Proofs.ltOf holdCmp a b = decide (a.Replica < b.Replica ∨ (a.Replica = b.Replica ∧ a.Number < b.Number)) := by
  unfold Go.Proofs.ltOf holdCmp
  by_cases h : a.Replica = b.Replica
  · by_cases h1 : a.Number = b.Number
    · simp [h, h1]
    · by_cases h2 : a.Number < b.Number <;> simp [h, h1, h2]
  · by_cases h2 : a.Replica < b.Replica <;> simp [h, h2]
theorem holdCmp_swo : Go.Sort.SWO (Go.Proofs.ltOf holdCmp) := by
  refine ⟨fun x => ?_, fun x y z h1 h2 => ?_, fun x y z h1 h2 => ?_⟩ <;> simp only [holdCmp_lt, decide_eq_true_eq, decide_eq_false_iff_not] at * <;> omega

def hold_Rights_L1 (a1 : List THold) (s3 : Int) : Option (Int ⊕ (Unit ⊕ Bool)) :=
  if (decide (s3 < (a1.length : Int))) = true then
      Option.bind (six a1 s3) fun j5 =>
      letM (a1.getD j5 default) fun v6 =>
      Option.bind (hold_Right v6) fun r7 =>
      Option.bind (gd (((!r7) = false) ∧ (decide (0 < s3)) = true) (six a1 (wr .i64 (s3 - 1)))) fun j8 =>
      Option.bind (gd (((!r7) = false) ∧ (decide (0 < s3)) = true) (hold_compare (a1.getD j8 default) v6)) fun r9 =>
      if ((!r7) || ((decide (0 < s3)) && (decide (0 ≤ r9)))) = true then
        some (.inr (.inr false))
      else
        some (.inl (wr .i64 (s3 + 1)))
    else
      some (.inr (.inl ()))
def hold_Rights (a1 : List THold) : Option (Bool) :=
  Option.bind (loopM (hold_Rights_L1 a1) fuel 0) (onS (fun x4 => letM (decide ((a1.length : Int) ≤ 16)) fun v10 =>
    some v10)
  (fun r => some r))
def lock_Right_1 (a1 : Int) : Option (Bool) :=
  Option.bind (gd ((decide (0 ≤ a1)) = true) (num_Is a1)) fun r2 =>
  letM ((decide (0 ≤ a1)) && r2) fun v3 =>
  some v3
def lock_is (a1 : Int) : Option (Bool) :=
  letM ((decide (0 ≤ a1)) && (decide (a1 < 16))) fun v2 =>
  some v2
def lock_Right (a1 : TLock) : Option (Bool) :=
  Option.bind (lock_Right_1 a1.Seq) fun r2 =>
  Option.bind (gd (r2 = true) (lock_Right_1 a1.Ver)) fun r3 =>
  Option.bind (gd ((r2 && r3) = true) (lock_is a1.Holder)) fun r4 =>
  Option.bind (gd (((r2 && r3) && r4) = true) (num_Is a1.Value)) fun r5 =>
  letM (((r2 && r3) && r4) && r5) fun v6 =>
  some v6
def field_Right (a1 : TField) : Option (Bool) :=
  Option.bind (field_Name a1.Name) fun r2 =>
  Option.bind (gd (((!r2) || (decide (a1.Epoch < 0))) = false) (num_Is a1.Epoch)) fun r3 =>
  if (((!r2) || (decide (a1.Epoch < 0))) || (!r3)) = true then
    some false
  else
    if (decide (a1.Kind = 1)) = true then
      Option.bind (counter_Right a1.Counter) fun r4 =>
      Option.bind (gd (r4 = true) (hold_Rights a1.Holds)) fun r5 =>
      letM ((r4 && r5) && (decide (a1.Lock = (⟨0, 0, 0, 0⟩ : TLock)))) fun v6 =>
      some v6
    else
      if (decide (a1.Kind = 2)) = true then
        Option.bind (lock_Right a1.Lock) fun r7 =>
        letM ((r7 && (decide ((a1.Holds.length : Int) = 0))) && (decide (a1.Counter = (⟨0, 0, 0, (default : TRights), (default : TRights)⟩ : TCounter)))) fun v8 =>
        some v8
      else
        some false
def plan_Fields_L1 (a1 : List TField) (s3 : Int) : Option (Int ⊕ (Unit ⊕ Bool)) :=
  if (decide (s3 < (a1.length : Int))) = true then
      Option.bind (six a1 s3) fun j5 =>
      letM (a1.getD j5 default) fun v6 =>
      Option.bind (field_Right v6) fun r7 =>
      Option.bind (gd (((!r7) = false) ∧ (decide (0 < s3)) = true) (six a1 (wr .i64 (s3 - 1)))) fun j8 =>
      letM ((!r7) || ((decide (0 < s3)) && (!bLs ((a1.getD j8 default).Name) v6.Name))) fun v9 =>
      if v9 = true then
        some (.inr (.inr false))
      else
        some (.inl (wr .i64 (s3 + 1)))
    else
      some (.inr (.inl ()))
def plan_Fields (a1 : List TField) : Option (Bool) :=
  Option.bind (loopM (plan_Fields_L1 a1) fuel 0) (onS (fun x4 => letM (decide ((a1.length : Int) ≤ 4)) fun v10 =>
    some v10)
  (fun r => some r))
def plan_rules  : Option (Unit) :=
  some ()
def plan_rules_1 (a1 : TPlan) : Option (Bool) :=
  letM (decide (a1.Other = (⟨#[]⟩ : ByteArray))) fun v2 =>
  some v2
def plan_rules_3_rules_1 (a1 : TPlan) : Option (Bool) :=
  Option.bind (plan_rules_1 a1) fun r2 =>
  letM (((r2 && (decide (0 ≤ a1.A))) && (decide (0 ≤ a1.B))) && (decide (0 < (wr .i64 (a1.A + a1.B))))) fun v3 =>
  some v3
def plan_rules_4_rules_1 (a1 : TPlan) : Option (Bool) :=
  Option.bind (plan_rules_1 a1) fun r2 =>
  letM ((r2 && (decide (a1.A = 0))) && (decide (a1.B = 0))) fun v3 =>
  some v3
def plan_rules_5_rules_1 (a1 : TPlan) : Option (Bool) :=
  Option.bind (plan_rules_1 a1) fun r2 =>
  letM (r2 && (decide (a1.A ≤ a1.B))) fun v3 =>
  some v3
def plan_rules_2 (a1 : TPlan) : Option (Bool) :=
  Option.bind (field_Name a1.Other) fun r2 =>
  letM (r2 && (!decide (a1.Other = a1.Name))) fun v3 =>
  some v3
def plan_rules_6_rules_2 (a1 : TPlan) : Option (Bool) :=
  Option.bind (plan_rules_2 a1) fun r2 =>
  letM ((r2 && (decide (1 ≤ a1.A))) && (decide (a1.B = 0))) fun v3 =>
  some v3
def plan_rules_7_rules_2 (a1 : TPlan) : Option (Bool) :=
  Option.bind (plan_rules_2 a1) fun r2 =>
  letM ((r2 && (decide (a1.A = 0))) && (decide (a1.B = 0))) fun v3 =>
  some v3
def plan_Right (a1 : TPlan) : Option (Bool) :=
  Option.bind (plan_rules) fun u2 =>
  Option.bind (i64M a1.Kind) fun u3 =>
  if (decide (a1.Kind = 1)) = true then
    Option.bind (field_Name a1.Name) fun r4 =>
    Option.bind (gd (r4 = true) (num_Is a1.A)) fun r5 =>
    Option.bind (gd ((r4 && r5) = true) (num_Is a1.B)) fun r6 =>
    Option.bind (gd (((r4 && r5) && r6) = true) (plan_rules_3_rules_1 a1)) fun r7 =>
    letM (((r4 && r5) && r6) && r7) fun v8 =>
    some v8
  else
    if (decide (a1.Kind = 2)) = true then
      Option.bind (field_Name a1.Name) fun r9 =>
      Option.bind (gd (r9 = true) (num_Is a1.A)) fun r10 =>
      Option.bind (gd ((r9 && r10) = true) (num_Is a1.B)) fun r11 =>
      Option.bind (gd (((r9 && r10) && r11) = true) (plan_rules_3_rules_1 a1)) fun r12 =>
      letM (((r9 && r10) && r11) && r12) fun v13 =>
      some v13
    else
      if (decide (a1.Kind = 3)) = true then
        Option.bind (field_Name a1.Name) fun r14 =>
        Option.bind (gd (r14 = true) (num_Is a1.A)) fun r15 =>
        Option.bind (gd ((r14 && r15) = true) (num_Is a1.B)) fun r16 =>
        Option.bind (gd (((r14 && r15) && r16) = true) (plan_rules_4_rules_1 a1)) fun r17 =>
        letM (((r14 && r15) && r16) && r17) fun v18 =>
        some v18
      else
        if (decide (a1.Kind = 4)) = true then
          Option.bind (field_Name a1.Name) fun r19 =>
          Option.bind (gd (r19 = true) (num_Is a1.A)) fun r20 =>
          Option.bind (gd ((r19 && r20) = true) (num_Is a1.B)) fun r21 =>
          Option.bind (gd (((r19 && r20) && r21) = true) (plan_rules_5_rules_1 a1)) fun r22 =>
          letM (((r19 && r20) && r21) && r22) fun v23 =>
          some v23
        else
          if (decide (a1.Kind = 5)) = true then
            Option.bind (field_Name a1.Name) fun r24 =>
            Option.bind (gd (r24 = true) (num_Is a1.A)) fun r25 =>
            Option.bind (gd ((r24 && r25) = true) (num_Is a1.B)) fun r26 =>
            Option.bind (gd (((r24 && r25) && r26) = true) (plan_rules_6_rules_2 a1)) fun r27 =>
            letM (((r24 && r25) && r26) && r27) fun v28 =>
            some v28
          else
            if (decide (a1.Kind = 6)) = true then
              Option.bind (field_Name a1.Name) fun r29 =>
              Option.bind (gd (r29 = true) (num_Is a1.A)) fun r30 =>
              Option.bind (gd ((r29 && r30) = true) (num_Is a1.B)) fun r31 =>
              Option.bind (gd (((r29 && r30) && r31) = true) (plan_rules_7_rules_2 a1)) fun r32 =>
              letM (((r29 && r30) && r31) && r32) fun v33 =>
              some v33
            else
              some false
def plan_names (a1 : TPlan) : Option ((List ByteArray)) :=
  if (decide (a1.Kind = 6)) = true then
    some [a1.Name, a1.Other]
  else
    some [a1.Name]
def plan_Find_1 (a1 : TField) (a2 : ByteArray) : Option (Bool) :=
  some (decide (a1.Name = a2))
def slices_IndexFunc_Field_Find_1_L1 (a1 : List TField) (a2 : ByteArray) (s4 : Int) : Option (Int ⊕ (Unit ⊕ Int)) :=
  if (decide (s4 < (a1.length : Int))) = true then
      Option.bind (six a1 s4) fun j6 =>
      letM (a1.getD j6 default) fun v7 =>
      Option.bind (plan_Find_1 v7 a2) fun r8 =>
      if r8 = true then
        some (.inr (.inr s4))
      else
        some (.inl (wr .i64 (s4 + 1)))
    else
      some (.inr (.inl ()))
def slices_IndexFunc_Field_Find_1 (a1 : List TField) (a2 : ByteArray) : Option (Int) :=
  Option.bind (loopM (slices_IndexFunc_Field_Find_1_L1 a1 a2) fuel 0) (onS (fun x5 => some (-1))
  (fun r => some r))
def plan_Find (a1 : List TField) (a2 : ByteArray) : Option (Int × Bool) :=
  Option.bind (slices_IndexFunc_Field_Find_1 a1 a2) fun r3 =>
  some ((max r3 0), (decide (0 ≤ r3)))
def plan_Fits_1 (a2 : TField) (b1 : Int) : Option (Bool × Int) :=
  some ((!decide (a2.Kind = b1)), b1)
def slices_IndexFunc_Field_Fits_1_L1 (a2 : List TField) (s4 : Int × Int) : Option ((Int × Int) ⊕ (Int ⊕ (Int × Int))) :=
  if (decide (s4.2 < (a2.length : Int))) = true then
      Option.bind (six a2 s4.2) fun j6 =>
      letM (a2.getD j6 default) fun v7 =>
      Option.bind (plan_Fits_1 v7 s4.1) fun r8 =>
      if r8.1 = true then
        some (.inr (.inr (s4.2, r8.2)))
      else
        some (.inl (r8.2, (wr .i64 (s4.2 + 1))))
    else
      some (.inr (.inl s4.1))
def slices_IndexFunc_Field_Fits_1 (a2 : List TField) (b1 : Int) : Option (Int × Int) :=
  Option.bind (loopM (slices_IndexFunc_Field_Fits_1_L1 a2) fuel (b1, 0)) (onS (fun x5 => some ((-1), x5))
  (fun r => some r))
def slices_ContainsFunc_Field_Fits_1 (a2 : List TField) (b1 : Int) : Option (Bool × Int) :=
  Option.bind (slices_IndexFunc_Field_Fits_1 a2 b1) fun r3 =>
  some ((decide (0 ≤ r3.1)), r3.2)
def plan_Fits_2 (a1 : THold) : Option (Bool) :=
  some (decide (a1.State = 1))
def slices_IndexFunc_Hold_Fits_2_L1 (a1 : List THold) (s3 : Int) : Option (Int ⊕ (Unit ⊕ Int)) :=
  if (decide (s3 < (a1.length : Int))) = true then
      Option.bind (six a1 s3) fun j5 =>
      letM (a1.getD j5 default) fun v6 =>
      Option.bind (plan_Fits_2 v6) fun r7 =>
      if r7 = true then
        some (.inr (.inr s3))
      else
        some (.inl (wr .i64 (s3 + 1)))
    else
      some (.inr (.inl ()))
def slices_IndexFunc_Hold_Fits_2 (a1 : List THold) : Option (Int) :=
  Option.bind (loopM (slices_IndexFunc_Hold_Fits_2_L1 a1) fuel 0) (onS (fun x4 => some (-1))
  (fun r => some r))
def slices_ContainsFunc_Hold_Fits_2 (a1 : List THold) : Option (Bool) :=
  Option.bind (slices_IndexFunc_Hold_Fits_2 a1) fun r2 =>
  some (decide (0 ≤ r2))
def plan_Fits_3_Fits_2 (a1 : TField) : Option (Bool) :=
  Option.bind (slices_ContainsFunc_Hold_Fits_2 a1.Holds) fun r2 =>
  some r2
def slices_IndexFunc_Field_Fits_3_Fits_2_L1 (a1 : List TField) (s3 : Int) : Option (Int ⊕ (Unit ⊕ Int)) :=
  if (decide (s3 < (a1.length : Int))) = true then
      Option.bind (six a1 s3) fun j5 =>
      letM (a1.getD j5 default) fun v6 =>
      Option.bind (plan_Fits_3_Fits_2 v6) fun r7 =>
      if r7 = true then
        some (.inr (.inr s3))
      else
        some (.inl (wr .i64 (s3 + 1)))
    else
      some (.inr (.inl ()))
def slices_IndexFunc_Field_Fits_3_Fits_2 (a1 : List TField) : Option (Int) :=
  Option.bind (loopM (slices_IndexFunc_Field_Fits_3_Fits_2_L1 a1) fuel 0) (onS (fun x4 => some (-1))
  (fun r => some r))
def slices_ContainsFunc_Field_Fits_3_Fits_2 (a1 : List TField) : Option (Bool) :=
  Option.bind (slices_IndexFunc_Field_Fits_3_Fits_2 a1) fun r2 =>
  some (decide (0 ≤ r2))
def plan_Fits_L1 (a1 : List TField) (r5 : (List ByteArray)) (s7 : Int × (List TField)) : Option ((Int × (List TField)) ⊕ (((List TField)) ⊕ Int)) :=
  if (decide (s7.1 < (r5.length : Int))) = true then
          Option.bind (six r5 s7.1) fun j9 =>
          Option.bind (plan_Find a1 (r5.getD j9 default)) fun r10 =>
          if (!r10.2) = true then
            some (.inr (.inr 10))
          else
            Option.bind (six a1 r10.1) fun j11 =>
            letM (a1.getD j11 default) fun v12 =>
            Option.bind (app 4720 s7.2 [v12]) fun l13 =>
            some (.inl ((wr .i64 (s7.1 + 1)), l13))
        else
          some (.inr (.inl s7.2))
def plan_Fits (a1 : List TField) (a2 : TPlan) : Option (Int) :=
  Option.bind (plan_Fields a1) fun r3 =>
  if (!r3) = true then
    some 1
  else
    Option.bind (plan_Right a2) fun r4 =>
    if (!r4) = true then
      some 14
    else
      Option.bind (plan_names a2) fun r5 =>
      Option.bind (loopM (plan_Fits_L1 a1 r5) fuel (0, ([] : List TField))) (onS (fun x8 => Option.bind (plan_Find a1 a2.Other) fun r14 =>
        if (decide (a2.Kind = 5)) = true then
          if r14.2 = true then
            some 11
          else
            letM (decide ((a1.length : Int) = 4)) fun v15 =>
            if v15 = true then
              some 7
            else
              if (decide (a2.Kind = 4)) = true then
                Option.bind (slices_ContainsFunc_Field_Fits_1 x8 2) fun r16 =>
                if r16.1 = true then
                  some 17
                else
                  Option.bind (slices_ContainsFunc_Field_Fits_3_Fits_2 x8) fun r17 =>
                  if r17 = true then
                    some 12
                  else
                    some 0
              else
                Option.bind (slices_ContainsFunc_Field_Fits_1 x8 1) fun r18 =>
                if r18.1 = true then
                  some 17
                else
                  Option.bind (slices_ContainsFunc_Field_Fits_3_Fits_2 x8) fun r19 =>
                  if r19 = true then
                    some 12
                  else
                    some 0
        else
          if (decide (a2.Kind = 4)) = true then
            Option.bind (slices_ContainsFunc_Field_Fits_1 x8 2) fun r20 =>
            if r20.1 = true then
              some 17
            else
              Option.bind (slices_ContainsFunc_Field_Fits_3_Fits_2 x8) fun r21 =>
              if r21 = true then
                some 12
              else
                some 0
          else
            Option.bind (slices_ContainsFunc_Field_Fits_1 x8 1) fun r22 =>
            if r22.1 = true then
              some 17
            else
              Option.bind (slices_ContainsFunc_Field_Fits_3_Fits_2 x8) fun r23 =>
              if r23 = true then
                some 12
              else
                some 0)
      (fun r => some r))
def plan_Touched (a1 : TPlan) (a2 : ByteArray) : Option (Bool) :=
  letM ((decide (a2 = a1.Name)) || ((!decide (a1.Other = (⟨#[]⟩ : ByteArray))) && (decide (a2 = a1.Other)))) fun v3 =>
  some v3
def barrier_Start_1 (a1 : TField) (a2 : TPlan) : Option (Bool) :=
  Option.bind (plan_Touched a2 a1.Name) fun r3 =>
  some (!r3)
def slices_IndexFunc_Field_Start_1_L1 (b1 : List TField) (a2 : TPlan) (s4 : Int) : Option (Int ⊕ (Unit ⊕ Int)) :=
  if (decide (s4 < ((b1.length : Nat) : Int))) = true then
      Option.bind (six b1 s4) fun j6 =>
      letM (b1.getD j6 default) fun v7 =>
      Option.bind (barrier_Start_1 v7 a2) fun r8 =>
      if r8 = true then
        some (.inr (.inr s4))
      else
        some (.inl (wr .i64 (s4 + 1)))
    else
      some (.inr (.inl ()))
def slices_IndexFunc_Field_Start_1 (a2 : TPlan) (b1 : List TField) : Option (Int) :=
  Option.bind (loopM (slices_IndexFunc_Field_Start_1_L1 b1 a2) fuel 0) (onS (fun x5 => some (-1))
  (fun r => some r))
def slices_DeleteFunc_Field_Start_1_L1 (a2 : TPlan) (s5 : (List TField) × Int × Int) : Option (((List TField) × Int × Int) ⊕ ((List TField) × Int)) :=
  if (decide (s5.2.1 < ((s5.1.length : Nat) : Int))) = true then
        Option.bind (six s5.1 s5.2.1) fun j7 =>
        letM (s5.1.getD j7 default) fun v8 =>
        Option.bind (barrier_Start_1 v8 a2) fun r9 =>
        if (!r9) = true then
          Option.bind (six s5.1 s5.2.2) fun j10 =>
          letM (s5.1.set j10 v8) fun v11 =>
          some (.inl (v11, (wr .i64 (s5.2.1 + 1)), (wr .i64 (s5.2.2 + 1))))
        else
          some (.inl (s5.1, (wr .i64 (s5.2.1 + 1)), s5.2.2))
      else
        some (.inr (s5.1, s5.2.2))
def slices_DeleteFunc_Field_Start_1 (a2 : TPlan) (b1 : List TField) : Option (Nat × (List TField)) :=
  Option.bind (slices_IndexFunc_Field_Start_1 a2 b1) fun r3 =>
  if (decide (r3 = (-1))) = true then
    some (b1.length, b1)
  else
    Option.bind (loopM (slices_DeleteFunc_Field_Start_1_L1 a2) fuel (b1, (wr .i64 (r3 + 1)), r3)) fun x6 =>
    Option.bind (six x6.1 x6.2) fun j12 =>
      letM (clr x6.1 j12 (⟨(default : ByteArray), 0, 0, (default : TCounter), (default : TLock), ([] : List THold)⟩ : TField)) fun v13 =>
      Option.bind (spre v13 x6.2) fun j14 =>
      some (j14, v13)
def barrier_own_L1 (a1 : List TField) (s3 : Int × (List TField)) : Option ((Int × (List TField)) ⊕ ((List TField))) :=
  if (decide (s3.1 < (a1.length : Int))) = true then
      Option.bind (six a1 s3.1) fun j5 =>
      letM (a1.getD j5 default) fun v6 =>
      Option.bind (app 40 [] v6.Holds) fun r7 =>
      letM ({ v6 with Holds := r7 }) fun v8 =>
      Option.bind (app 4720 s3.2 [v8]) fun l9 =>
      some (.inl ((wr .i64 (s3.1 + 1)), l9))
    else
      some (.inr s3.2)
def barrier_own (a1 : List TField) : Option ((List TField)) :=
  Option.bind (loopM (barrier_own_L1 a1) fuel (0, ([] : List TField))) fun x4 =>
  some x4
def barrier_Start_L1 (a2 : List TField) (s10 : Int × Int) : Option ((Int × Int) ⊕ Int) :=
  if (decide (s10.1 < (a2.length : Int))) = true then
          Option.bind (six a2 s10.1) fun j12 =>
          letM (a2.getD j12 default) fun v13 =>
          letM (max s10.2 (wr .i64 (v13.Epoch + 1))) fun v14 =>
          some (.inl ((wr .i64 (s10.1 + 1)), v14))
        else
          some (.inr s10.2)
def barrier_Start (a1 : Tbarrier_Barrier) (a2 : List TField) (a3 : TPlan) (a4 : Int) : Option (Tbarrier_Barrier × Int) :=
  Option.bind (barrier_Pending a1) fun r5 =>
  if r5 = true then
    letM (⟨0, 0, 0, 0, (default : TPlan), 0, 0, 0, ([] : List TField), ([] : List TField)⟩ : Tbarrier_Barrier) fun v6 =>
    some (v6, 15)
  else
    Option.bind (plan_Fits a2 a3) fun r7 =>
    if (!decide (r7 = 0)) = true then
      letM (⟨0, 0, 0, 0, (default : TPlan), 0, 0, 0, ([] : List TField), ([] : List TField)⟩ : Tbarrier_Barrier) fun v8 =>
      some (v8, r7)
    else
      Option.bind (loopM (barrier_Start_L1 a2) fuel (0, 1)) fun x11 =>
      if (decide (1099511627776 < x11)) = true then
          letM (⟨0, 0, 0, 0, (default : TPlan), 0, 0, 0, ([] : List TField), ([] : List TField)⟩ : Tbarrier_Barrier) fun v15 =>
          some (v15, 2)
        else
          Option.bind (app 4720 [] a2) fun l16 =>
          Option.bind (slices_DeleteFunc_Field_Start_1 a3 l16) fun r17 =>
          Option.bind (prek r17.2 r17.1) fun u18 =>
          Option.bind (barrier_own (r17.2.take r17.1)) fun r19 =>
          letM (⟨a1.N, 1, (wr .i64 (a1.Number + 1)), x11, a3, a4, 1, 1, r19, ([] : List TField)⟩ : Tbarrier_Barrier) fun v20 =>
          some (v20, 0)
def barrier_Barrier_other (a1 : Tbarrier_Barrier) (a2 : Int) : Option (Bool) :=
  letM (((decide (1 ≤ a2)) && (decide (a2 < a1.N))) && (decide (a2 < 16))) fun v3 =>
  some v3
def barrier_own_own_L1 (a1 : List TField) (s3 : (List TField) × Int) : Option (((List TField) × Int) ⊕ ((List TField))) :=
  if (decide (s3.2 < (a1.length : Int))) = true then
      Option.bind (six a1 s3.2) fun j5 =>
      letM (a1.getD j5 default) fun v6 =>
      Option.bind (app 40 [] v6.Holds) fun r7 =>
      letM ({ v6 with Holds := r7 }) fun v8 =>
      Option.bind (app 4720 s3.1 [v8]) fun l9 =>
      some (.inl (l9, (wr .i64 (s3.2 + 1))))
    else
      some (.inr s3.1)
def barrier_own_own (a1 : List TField) : Option ((List TField)) :=
  Option.bind (loopM (barrier_own_own_L1 a1) fuel (([] : List TField), 0)) fun x4 =>
  some x4
def barrier_copied_own (a1 : Tbarrier_Barrier) : Option (Tbarrier_Barrier) :=
  Option.bind (barrier_own_own a1.Joined) fun r2 =>
  Option.bind (barrier_own_own a1.Made) fun r3 =>
  some ({ a1 with Joined := r2, Made := r3 })
def vec_Join_L1 (a2 : Vector Int 16) (s4 : Int × (Vector Int 16)) : Option ((Int × (Vector Int 16)) ⊕ ((Vector Int 16))) :=
  if (decide (s4.1 < 16)) = true then
      Option.bind (fix_ 16 s4.1) fun k6 =>
      Option.bind (fix_ 16 s4.1) fun k7 =>
      Option.bind (fix_ 16 s4.1) fun k8 =>
      letM (s4.2.set k8.val (max (s4.2.get k6) (a2.get k7))) fun v9 =>
      some (.inl ((wr .i64 (s4.1 + 1)), v9))
    else
      some (.inr s4.2)
def vec_Join (a1 : Vector Int 16) (a2 : Vector Int 16) : Option ((Vector Int 16)) :=
  Option.bind (loopM (vec_Join_L1 a2) fuel (0, a1)) fun x5 =>
  some x5
def rights_Join_1 (a2 : Vector Int 16) (b1 : TRights) : Option (TRights) :=
  Option.bind (vec_Join b1.Given a2) fun r3 =>
  letM ({ b1 with Given := r3 }) fun v4 =>
  some v4
def rights_Join_1_2 (a2 : Vector Int 16) (b1 : TRights) : Option (TRights) :=
  Option.bind (vec_Join b1.Used a2) fun r3 =>
  letM ({ b1 with Used := r3 }) fun v4 =>
  some v4
def rights_Join_1_3 (k2 : Fin 16) (a3 : Vector Int 16) (b1 : TRights) : Option (TRights) :=
  letM (b1.Moved.get k2) fun v4 =>
  Option.bind (vec_Join v4 a3) fun r5 =>
  letM ({ b1 with Moved := (b1.Moved.set k2.val r5) }) fun v6 =>
  some v6
def rights_Join_L1 (a2 : TRights) (s6 : Int × TRights) : Option ((Int × TRights) ⊕ TRights) :=
  if (decide (s6.1 < 16)) = true then
      Option.bind (fix_ 16 s6.1) fun k8 =>
      Option.bind (fix_ 16 s6.1) fun k9 =>
      letM (a2.Moved.get k9) fun v10 =>
      Option.bind (rights_Join_1_3 k8 v10 s6.2) fun r11 =>
      some (.inl ((wr .i64 (s6.1 + 1)), r11))
    else
      some (.inr s6.2)
def rights_Join (a1 : TRights) (a2 : TRights) : Option (TRights) :=
  Option.bind (rights_Join_1 a2.Given a1) fun r3 =>
  Option.bind (rights_Join_1_2 a2.Used r3) fun r4 =>
  Option.bind (loopM (rights_Join_L1 a2) fuel (0, r4)) fun x7 =>
  some x7
def counter_Join (a1 : TCounter) (a2 : TCounter) : Option (TCounter × Int) :=
  letM (((!decide (a1.Init = a2.Init)) || (!decide (a1.Low = a2.Low))) || (!decide (a1.High = a2.High))) fun v3 =>
  if v3 = true then
    letM (⟨0, 0, 0, (default : TRights), (default : TRights)⟩ : TCounter) fun v4 =>
    some (v4, 1)
  else
    Option.bind (rights_Join a1.Down a2.Down) fun r5 =>
    Option.bind (rights_Join a1.Up a2.Up) fun r6 =>
    letM ({ a1 with Down := r5 }) fun v7 =>
    letM ({ v7 with Up := r6 }) fun v8 =>
    some (v8, 0)
def hold_Join_L1 (a1 : List THold) (s7 : Int × (AMap (Vector Int 2) Int okInts)) : Option ((Int × (AMap (Vector Int 2) Int okInts)) ⊕ ((AMap (Vector Int 2) Int okInts))) :=
  if (decide (s7.1 < (a1.length : Int))) = true then
        Option.bind (six a1 s7.1) fun j9 =>
        letM (a1.getD j9 default) fun v10 =>
        Option.bind (AMap.put s7.2 (#v[v10.Replica, v10.Number] : Vector Int 2) s7.1) fun p11 =>
        some (.inl ((wr .i64 (s7.1 + 1)), p11))
      else
        some (.inr s7.2)
def hold_Join_L2 (a2 : List THold) (x8 : (AMap (Vector Int 2) Int okInts)) (s13 : Int × (List THold)) : Option ((Int × (List THold)) ⊕ (((List THold)) ⊕ ((List THold) × Int))) :=
  if (decide (s13.1 < (a2.length : Int))) = true then
          Option.bind (six a2 s13.1) fun j15 =>
          letM (a2.getD j15 default) fun v16 =>
          Option.bind (AMap.get x8 (#v[v16.Replica, v16.Number] : Vector Int 2)) fun o17 =>
          if (!o17.isSome) = true then
            Option.bind (app 40 s13.2 [v16]) fun l18 =>
            some (.inl ((wr .i64 (s13.1 + 1)), l18))
          else
            Option.bind (six s13.2 (o17.getD default)) fun j19 =>
            Option.bind (gd ((!decide ((s13.2.getD j19 default).Amount = v16.Amount)) = false) (six s13.2 (o17.getD default))) fun j20 =>
            letM ((!decide ((s13.2.getD j19 default).Amount = v16.Amount)) || (!decide ((s13.2.getD j20 default).Due = v16.Due))) fun v21 =>
            if v21 = true then
              some (.inr (.inr (([] : List THold), 1)))
            else
              Option.bind (six s13.2 (o17.getD default)) fun j22 =>
              Option.bind (six s13.2 (o17.getD default)) fun j23 =>
              letM (s13.2.set j23 ({ (s13.2.getD j23 default) with State := (max ((s13.2.getD j22 default).State) v16.State) })) fun v24 =>
              some (.inl ((wr .i64 (s13.1 + 1)), v24))
        else
          some (.inr (.inl s13.2))
def hold_Join (a1 : List THold) (a2 : List THold) : Option ((List THold) × Int) :=
  Option.bind (hold_Rights a1) fun r3 =>
  Option.bind (gd ((!r3) = false) (hold_Rights a2)) fun r4 =>
  if ((!r3) || (!r4)) = true then
    some (([] : List THold), 1)
  else
    Option.bind (app 40 [] a1) fun l5 =>
    Option.bind (loopM (hold_Join_L1 a1) fuel (0, (AMap.empty : AMap (Vector Int 2) Int okInts))) fun x8 =>
    Option.bind (loopM (hold_Join_L2 a2 x8) fuel (0, l5)) (onS (fun x14 => if (decide (16 < ((x14.length : Nat) : Int))) = true then
          some (([] : List THold), 7)
        else
          Option.bind (sortM holdCmp x14) fun l25 =>
          some (l25, 0))
      (fun r => some r))
def lock_Compare_L1 (a1 : TLock) (a2 : TLock) (s4 : Int) : Option (Int ⊕ (Unit ⊕ Int)) :=
  if (decide (s4 < 4)) = true then
      Option.bind (fix_ 4 s4) fun k6 =>
      letM ((#v[(#v[a1.Seq, a2.Seq] : Vector Int 2), (#v[a1.Ver, a2.Ver] : Vector Int 2), (#v[a1.Holder, a2.Holder] : Vector Int 2), (#v[a1.Value, a2.Value] : Vector Int 2)] : Vector (Vector Int 2) 4).get k6) fun v7 =>
      Option.bind (fix_ 2 0) fun k8 =>
      Option.bind (fix_ 2 1) fun k9 =>
      if (!decide ((v7.get k8) = (v7.get k9))) = true then
        Option.bind (fix_ 2 0) fun k10 =>
        Option.bind (fix_ 2 1) fun k11 =>
        if (decide ((v7.get k11) < (v7.get k10))) = true then
          some (.inr (.inr 1))
        else
          some (.inr (.inr (-1)))
      else
        some (.inl (wr .i64 (s4 + 1)))
    else
      some (.inr (.inl ()))
def lock_Compare (a1 : TLock) (a2 : TLock) : Option (Int) :=
  Option.bind (loopM (lock_Compare_L1 a1 a2) fuel 0) (onS (fun x5 => some 0)
  (fun r => some r))
def lock_Join (a1 : TLock) (a2 : TLock) : Option (TLock) :=
  Option.bind (lock_Compare a1 a2) fun r3 =>
  if (decide (r3 < 0)) = true then
    some a2
  else
    some a1
def field_Join (a1 : TField) (a2 : TField) : Option (TField × Int) :=
  letM (((!decide (a1.Name = a2.Name)) || (!decide (a1.Kind = a2.Kind))) || (!decide (a1.Epoch = a2.Epoch))) fun v3 =>
  if v3 = true then
    letM (⟨(default : ByteArray), 0, 0, (default : TCounter), (default : TLock), ([] : List THold)⟩ : TField) fun v4 =>
    some (v4, 1)
  else
    Option.bind (counter_Join a1.Counter a2.Counter) fun r5 =>
    if (!decide (r5.2 = 0)) = true then
      letM (⟨(default : ByteArray), 0, 0, (default : TCounter), (default : TLock), ([] : List THold)⟩ : TField) fun v6 =>
      some (v6, r5.2)
    else
      Option.bind (hold_Join a1.Holds a2.Holds) fun r7 =>
      if (!decide (r7.2 = 0)) = true then
        letM (⟨(default : ByteArray), 0, 0, (default : TCounter), (default : TLock), ([] : List THold)⟩ : TField) fun v8 =>
        some (v8, r7.2)
      else
        Option.bind (lock_Join a1.Lock a2.Lock) fun r9 =>
        letM ({ a1 with Counter := r5.1 }) fun v10 =>
        letM ({ v10 with Holds := r7.1 }) fun v11 =>
        letM ({ v11 with Lock := r9 }) fun v12 =>
        some (v12, 0)
def counter_Value_L1 (a1 : TCounter) (s4 : Int × (List Int)) : Option ((Int × (List Int)) ⊕ ((List Int))) :=
  if (decide (s4.1 < 16)) = true then
      Option.bind (fix_ 16 s4.1) fun k6 =>
      Option.bind (app 8 s4.2 [(wr .i64 (0 - (a1.Down.Used.get k6)))]) fun l7 =>
      some (.inl ((wr .i64 (s4.1 + 1)), l7))
    else
      some (.inr s4.2)
def counter_Value (a1 : TCounter) : Option (Int × Int) :=
  Option.bind (app 8 [a1.Init] a1.Up.Used.toList) fun l2 =>
  Option.bind (loopM (counter_Value_L1 a1) fuel (0, l2)) fun x5 =>
  Option.bind (num_Sum x5) fun r8 =>
    some (r8.1, r8.2)
def field_View (a1 : TField) : Option (Int × Int) :=
  if (decide (a1.Kind = 1)) = true then
    Option.bind (counter_Value a1.Counter) fun r2 =>
    some (r2.1, r2.2)
  else
    if (decide (a1.Kind = 2)) = true then
      some (a1.Lock.Value, 0)
    else
      some (0, 17)
def plan_made_L1 (a2 : Int) (a3 : Int) (a4 : Int) (a5 : Int) (s7 : Int) : Option (Int ⊕ (Unit ⊕ (TField × Int))) :=
  if (decide (s7 < ([a2, a3, a4, a5, (wr .i64 (a5 - a4))].length : Int))) = true then
      Option.bind (six [a2, a3, a4, a5, (wr .i64 (a5 - a4))] s7) fun j9 =>
      letM ([a2, a3, a4, a5, (wr .i64 (a5 - a4))].getD j9 default) fun v10 =>
      Option.bind (num_Is v10) fun r11 =>
      if (!r11) = true then
        letM (⟨(default : ByteArray), 0, 0, (default : TCounter), (default : TLock), ([] : List THold)⟩ : TField) fun v12 =>
        some (.inr (.inr (v12, 2)))
      else
        some (.inl (wr .i64 (s7 + 1)))
    else
      some (.inr (.inl ()))
def plan_made (a1 : ByteArray) (a2 : Int) (a3 : Int) (a4 : Int) (a5 : Int) : Option (TField × Int) :=
  Option.bind (loopM (plan_made_L1 a2 a3 a4 a5) fuel 0) (onS (fun x8 => Option.bind (counter_New a3 a4 a5) fun r13 =>
    if (!decide (r13.2 = 0)) = true then
      letM (⟨(default : ByteArray), 0, 0, (default : TCounter), (default : TLock), ([] : List THold)⟩ : TField) fun v14 =>
      some (v14, 14)
    else
      letM (⟨a1, 1, a2, r13.1, (default : TLock), ([] : List THold)⟩ : TField) fun v15 =>
      some (v15, 0))
  (fun r => some r))
def plan_change_1_own (a2 : Int) (a3 : Int) (a4 : Int) (a5 : TField) (b1 : Int) : Option ((List TField) × Int × Int) :=
  Option.bind (plan_made a5.Name b1 a2 a3 a4) fun r6 =>
  letM [r6.1] fun v7 =>
  some (v7, r6.2, b1)
def lock_New (a1 : Int) (a2 : Int) : Option (TLock × Int) :=
  Option.bind (lock_is a1) fun r3 =>
  if (!r3) = true then
    letM (⟨0, 0, 0, 0⟩ : TLock) fun v4 =>
    some (v4, 1)
  else
    Option.bind (num_Is a2) fun r5 =>
    if (!r5) = true then
      letM (⟨0, 0, 0, 0⟩ : TLock) fun v6 =>
      some (v6, 2)
    else
      letM (⟨0, 0, a1, a2⟩ : TLock) fun v7 =>
      some (v7, 0)
def plan_change_own (a1 : TField) (a2 : TField) (a3 : TPlan) : Option ((List TField) × Int) :=
  Option.bind (field_View a1) fun r4 =>
  Option.bind (field_View a2) fun r5 =>
  letM ((!decide (r4.2 = 0)) || ((!decide (r5.2 = 0)) && (decide (a3.Kind = 6)))) fun v6 =>
  if v6 = true then
    some (([] : List TField), 2)
  else
    letM (wr .i64 (a1.Epoch + 1)) fun v7 =>
    if (decide (a3.Kind = 1)) = true then
      Option.bind (plan_change_1_own r4.1 (wr .i64 (a1.Counter.Low + a3.A)) (wr .i64 (a1.Counter.High - a3.B)) a1 v7) fun r8 =>
      some (r8.1, r8.2.1)
    else
      if (decide (a3.Kind = 2)) = true then
        Option.bind (plan_change_1_own r4.1 (wr .i64 (a1.Counter.Low - a3.A)) (wr .i64 (a1.Counter.High + a3.B)) a1 v7) fun r9 =>
        some (r9.1, r9.2.1)
      else
        if (decide (a3.Kind = 4)) = true then
          Option.bind (plan_change_1_own r4.1 a3.A a3.B a1 v7) fun r10 =>
          some (r10.1, r10.2.1)
        else
          if (decide (a3.Kind = 6)) = true then
            letM (wr .i64 ((max a1.Epoch a2.Epoch) + 1)) fun v11 =>
            Option.bind (plan_change_1_own (wr .i64 (r4.1 + r5.1)) (wr .i64 (a1.Counter.Low + a2.Counter.Low)) (wr .i64 (a1.Counter.High + a2.Counter.High)) a1 v11) fun r12 =>
            some (r12.1, r12.2.1)
          else
            if (decide (a3.Kind = 5)) = true then
              letM (max 0 (wr .i64 (r4.1 - (wr .i64 (a1.Counter.High - a3.A))))) fun v13 =>
              Option.bind (plan_made a3.Other v7 v13 0 a3.A) fun r14 =>
              if (!decide (r14.2 = 0)) = true then
                some (([] : List TField), r14.2)
              else
                Option.bind (plan_change_1_own (wr .i64 (r4.1 - v13)) a1.Counter.Low (wr .i64 (a1.Counter.High - a3.A)) a1 v7) fun r15 =>
                Option.bind (app 4720 r15.1 [r14.1]) fun l16 =>
                some (l16, r15.2.1)
            else
              Option.bind (lock_New 0 r4.1) fun r17 =>
              Option.bind (gd ((!decide (r17.2 = 0)) = false) (num_Is v7)) fun r18 =>
              if ((!decide (r17.2 = 0)) || (!r18)) = true then
                some (([] : List TField), 2)
              else
                letM (⟨a1.Name, 2, v7, (default : TCounter), r17.1, ([] : List THold)⟩ : TField) fun v19 =>
                letM [v19] fun v20 =>
                some (v20, 0)
def plan_Apply_1 (a1 : TField) (a2 : TField) : Option (Int) :=
  if (bLs a1.Name a2.Name) = true then
    some (-1)
  else
    some 1
def planCmp (a b : TField) : Int := if bLs a.Name b.Name = true then -1 else 1
theorem plan_Apply_1_eq (a b : TField) : plan_Apply_1 a b = some (planCmp a b) := by
  unfold plan_Apply_1 planCmp
  split <;> rfl
theorem planCmp_lt : Go.Proofs.ltOf planCmp = fun a b : TField => bLs a.Name b.Name := by
  funext a b
  unfold Go.Proofs.ltOf planCmp
  by_cases h : bLs a.Name b.Name = true <;> simp [h]
theorem planCmp_swo : Go.Sort.SWO (Go.Proofs.ltOf planCmp) := by
  rw [planCmp_lt]
  exact ⟨fun x => bLs_swo.irrefl x.Name, fun x y z => bLs_swo.trans x.Name y.Name z.Name, fun x y z => bLs_swo.ntrans x.Name y.Name z.Name⟩

def plan_Apply_own_L1 (a1 : List TField) (a2 : TPlan) (s12 : Int × (List TField)) : Option ((Int × (List TField)) ⊕ ((List TField))) :=
  if (decide (s12.1 < (a1.length : Int))) = true then
            Option.bind (six a1 s12.1) fun j14 =>
            letM (a1.getD j14 default) fun v15 =>
            Option.bind (plan_Touched a2 v15.Name) fun r16 =>
            if (!r16) = true then
              Option.bind (app 40 [] v15.Holds) fun r17 =>
              letM ({ v15 with Holds := r17 }) fun v18 =>
              Option.bind (app 4720 s12.2 [v18]) fun l19 =>
              some (.inl ((wr .i64 (s12.1 + 1)), l19))
            else
              some (.inl ((wr .i64 (s12.1 + 1)), s12.2))
          else
            some (.inr s12.2)
def plan_Apply_own_L2 (a1 : List TField) (a2 : TPlan) (s25 : Int × (List TField)) : Option ((Int × (List TField)) ⊕ ((List TField))) :=
  if (decide (s25.1 < (a1.length : Int))) = true then
            Option.bind (six a1 s25.1) fun j27 =>
            letM (a1.getD j27 default) fun v28 =>
            Option.bind (plan_Touched a2 v28.Name) fun r29 =>
            if (!r29) = true then
              Option.bind (app 40 [] v28.Holds) fun r30 =>
              letM ({ v28 with Holds := r30 }) fun v31 =>
              Option.bind (app 4720 s25.2 [v31]) fun l32 =>
              some (.inl ((wr .i64 (s25.1 + 1)), l32))
            else
              some (.inl ((wr .i64 (s25.1 + 1)), s25.2))
          else
            some (.inr s25.2)
def plan_Apply_own (a1 : List TField) (a2 : TPlan) : Option ((List TField) × Int) :=
  Option.bind (plan_Fits a1 a2) fun r3 =>
  if (!decide (r3 = 0)) = true then
    some (([] : List TField), r3)
  else
    Option.bind (plan_Find a1 a2.Name) fun r4 =>
    Option.bind (plan_Find a1 a2.Other) fun r5 =>
    if r5.2 = true then
      Option.bind (six a1 r5.1) fun j6 =>
      letM (a1.getD j6 default) fun v7 =>
      Option.bind (six a1 r4.1) fun j8 =>
      letM (a1.getD j8 default) fun v9 =>
      Option.bind (plan_change_own v9 v7 a2) fun r10 =>
      if (!decide (r10.2 = 0)) = true then
        some (([] : List TField), r10.2)
      else
        Option.bind (loopM (plan_Apply_own_L1 a1 a2) fuel (0, r10.1)) fun x13 =>
        Option.bind (sortM planCmp x13) fun l20 =>
          some (l20, 0)
    else
      Option.bind (six a1 r4.1) fun j21 =>
      letM (a1.getD j21 default) fun v22 =>
      Option.bind (plan_change_own v22 (⟨(default : ByteArray), 0, 0, (default : TCounter), (default : TLock), ([] : List THold)⟩ : TField) a2) fun r23 =>
      if (!decide (r23.2 = 0)) = true then
        some (([] : List TField), r23.2)
      else
        Option.bind (loopM (plan_Apply_own_L2 a1 a2) fuel (0, r23.1)) fun x26 =>
        Option.bind (sortM planCmp x26) fun l33 =>
          some (l33, 0)
def barrier_Ack_L1 (a4 : List TField) (r9 : Tbarrier_Barrier) (s11 : Int × (List TField)) : Option ((Int × (List TField)) ⊕ (((List TField)) ⊕ (Tbarrier_Barrier × Int))) :=
  if (decide (s11.1 < ((r9.Joined.length : Nat) : Int))) = true then
          Option.bind (six s11.2 s11.1) fun j13 =>
          letM (s11.2.getD j13 default) fun v14 =>
          Option.bind (plan_Find a4 v14.Name) fun r15 =>
          if (!r15.2) = true then
            letM (⟨0, 0, 0, 0, (default : TPlan), 0, 0, 0, ([] : List TField), ([] : List TField)⟩ : Tbarrier_Barrier) fun v16 =>
            some (.inr (.inr (v16, 1)))
          else
            Option.bind (six a4 r15.1) fun j17 =>
            letM (a4.getD j17 default) fun v18 =>
            Option.bind (field_Join v14 v18) fun r19 =>
            if (!decide (r19.2 = 0)) = true then
              letM (⟨0, 0, 0, 0, (default : TPlan), 0, 0, 0, ([] : List TField), ([] : List TField)⟩ : Tbarrier_Barrier) fun v20 =>
              some (.inr (.inr (v20, r19.2)))
            else
              Option.bind (six s11.2 s11.1) fun j21 =>
              letM (s11.2.set j21 r19.1) fun v22 =>
              some (.inl ((wr .i64 (s11.1 + 1)), v22))
        else
          some (.inr (.inl s11.2))
def barrier_Ack_L2 (r9 : Tbarrier_Barrier) (r26 : (List TField) × Int) (s28 : Int × (List TField)) : Option ((Int × (List TField)) ⊕ ((List TField))) :=
  if (decide (s28.1 < ((r26.1.length : Nat) : Int))) = true then
                Option.bind (six s28.2 s28.1) fun j30 =>
                letM (s28.2.set j30 ({ (s28.2.getD j30 default) with Epoch := r9.Epoch })) fun v31 =>
                some (.inl ((wr .i64 (s28.1 + 1)), v31))
              else
                some (.inr s28.2)
def barrier_Ack (a1 : Tbarrier_Barrier) (a2 : Int) (a3 : Int) (a4 : List TField) : Option (Tbarrier_Barrier × Int) :=
  Option.bind (barrier_Barrier_other a1 a2) fun r5 =>
  if (!r5) = true then
    letM (⟨0, 0, 0, 0, (default : TPlan), 0, 0, 0, ([] : List TField), ([] : List TField)⟩ : Tbarrier_Barrier) fun v6 =>
    some (v6, 1)
  else
    letM ((!decide (a1.State = 1)) || (!decide (a3 = a1.Number))) fun v7 =>
    if v7 = true then
      letM (⟨0, 0, 0, 0, (default : TPlan), 0, 0, 0, ([] : List TField), ([] : List TField)⟩ : Tbarrier_Barrier) fun v8 =>
      some (v8, 12)
    else
      Option.bind (barrier_copied_own a1) fun r9 =>
      Option.bind (loopM (barrier_Ack_L1 a4 r9) fuel (0, r9.Joined)) (onS (fun x12 => Option.bind (sh0 a2) fun u23 =>
        Option.bind (barrier_Barrier_all ({ r9 with Acked := (iOr .i64 r9.Acked (iShl .i64 1 a2)), Joined := x12 })) fun r24 =>
        if (!decide ((iOr .i64 r9.Acked (iShl .i64 1 a2)) = r24)) = true then
          letM ({ r9 with Acked := (iOr .i64 r9.Acked (iShl .i64 1 a2)), Joined := x12 }) fun v25 =>
          some (v25, 0)
        else
          Option.bind (plan_Apply_own x12 r9.Plan) fun r26 =>
          if (decide (r26.2 = 0)) = true then
            Option.bind (loopM (barrier_Ack_L2 r9 r26) fuel (0, r26.1)) fun x29 =>
            some ({ r9 with State := 2, Acked := (iOr .i64 r9.Acked (iShl .i64 1 a2)), Joined := x12, Made := x29 }, 0)
          else
            letM ({ r9 with State := 3, Acked := (iOr .i64 r9.Acked (iShl .i64 1 a2)), Joined := x12 }) fun v32 =>
            some (v32, 0))
      (fun r => some r))
def barrier_copied (a1 : Tbarrier_Barrier) : Option (Tbarrier_Barrier) :=
  Option.bind (barrier_own a1.Joined) fun r2 =>
  Option.bind (barrier_own a1.Made) fun r3 =>
  letM ({ a1 with Joined := r2 }) fun v4 =>
  letM ({ v4 with Made := r3 }) fun v5 =>
  some v5
def barrier_Heard (a1 : Tbarrier_Barrier) (a2 : Int) (a3 : Int) : Option (Tbarrier_Barrier) :=
  Option.bind (barrier_copied a1) fun r4 =>
  letM (((decide (r4.State = 2)) || (decide (r4.State = 3))) && (decide (a3 = r4.Number))) fun v5 =>
  Option.bind (gd (v5 = true) (barrier_Barrier_other r4 a2)) fun r6 =>
  if (v5 && r6) = true then
    Option.bind (sh0 a2) fun u7 =>
    letM ({ r4 with Told := (iOr .i64 r4.Told (iShl .i64 1 a2)) }) fun v8 =>
    some v8
  else
    some r4
def barrier_Tick (a1 : Tbarrier_Barrier) (a2 : Int) : Option (Tbarrier_Barrier) :=
  Option.bind (barrier_copied a1) fun r3 =>
  if ((decide (r3.State = 1)) && (decide (r3.Due < a2))) = true then
    letM ({ r3 with State := 3 }) fun v4 =>
    some v4
  else
    some r3
def usufructlaw16_awake  : Option (Bool) :=
  Option.bind (field_Counter (⟨#[97]⟩ : ByteArray) 5 0 10) fun r1 =>
  Option.bind (barrier_New 2) fun r2 =>
  letM (⟨3, (⟨#[97]⟩ : ByteArray), (default : ByteArray), 0, 0⟩ : TPlan) fun v3 =>
  Option.bind (barrier_Start r2.1 [r1.1] v3 9) fun r4 =>
  Option.bind (barrier_Ack r4.1 1 1 [r1.1]) fun r5 =>
  letM ((((decide (r2.2 = 0)) && (decide (r4.2 = 0))) && (decide (r5.2 = 0))) && (decide (r5.1.State = 2))) fun v6 =>
  Option.bind (gd ((v6 && (decide ((r5.1.Made.length : Int) = 1))) = true) (barrier_Pending r5.1)) fun r7 =>
  Option.bind (gd (((v6 && (decide ((r5.1.Made.length : Int) = 1))) && r7) = true) (barrier_Heard r5.1 1 1)) fun r8 =>
  Option.bind (gd (((v6 && (decide ((r5.1.Made.length : Int) = 1))) && r7) = true) (barrier_Pending r8)) fun r9 =>
  Option.bind (gd ((((v6 && (decide ((r5.1.Made.length : Int) = 1))) && r7) && (!r9)) = true) (barrier_Tick r4.1 10)) fun r10 =>
  letM ((((v6 && (decide ((r5.1.Made.length : Int) = 1))) && r7) && (!r9)) && (decide (r10.State = 3))) fun v11 =>
  some v11
def usufructref07_Name_L1 (a1 : ByteArray) (s3 : Int) : Option (Int ⊕ (Unit ⊕ Bool)) :=
  if (decide (s3 < (a1.size : Int))) = true then
      Option.bind (bix a1 s3) fun n5 =>
      Option.bind (gd ((decide (n5 < 33)) = false) (bix a1 s3)) fun n6 =>
      if ((decide (n5 < 33)) || (decide (126 < n6))) = true then
        some (.inr (.inr false))
      else
        some (.inl (wr .i64 (s3 + 1)))
    else
      some (.inr (.inl ()))
def usufructref07_Name (a1 : ByteArray) : Option (Bool) :=
  Option.bind (loopM (usufructref07_Name_L1 a1) fuel 0) (onS (fun x4 => letM ((decide (0 < (a1.size : Int))) && (decide ((a1.size : Int) ≤ 8))) fun v7 =>
    some v7)
  (fun r => some r))
def usufructref01_Is (a1 : Int) : Option (Bool) :=
  letM ((decide (a1 ≤ 1099511627776)) && (decide ((-1099511627776) ≤ a1))) fun v2 =>
  some v2
def usufructref02_Right_L1 (a1 : Vector Int 16) (s3 : Int) : Option (Int ⊕ (Unit ⊕ Bool)) :=
  if (decide (s3 < 16)) = true then
      Option.bind (fix_ 16 s3) fun k5 =>
      Option.bind (gd ((decide ((a1.get k5) < 0)) = false) (fix_ 16 s3)) fun k6 =>
      if ((decide ((a1.get k5) < 0)) || (decide (1099511627776 < (a1.get k6)))) = true then
        some (.inr (.inr false))
      else
        some (.inl (wr .i64 (s3 + 1)))
    else
      some (.inr (.inl ()))
def usufructref02_Right (a1 : Vector Int 16) : Option (Bool) :=
  Option.bind (loopM (usufructref02_Right_L1 a1) fuel 0) (onS (fun x4 => some true)
  (fun r => some r))
def usufructref03_Right_L1 (a1 : TRights) (s5 : Int × Bool) : Option ((Int × Bool) ⊕ Bool) :=
  if (decide (s5.1 < 16)) = true then
      Option.bind (gd (s5.2 = true) (fix_ 16 s5.1)) fun k7 =>
      Option.bind (gd (s5.2 = true) (usufructref02_Right (a1.Moved.get k7))) fun r8 =>
      Option.bind (gd ((s5.2 && r8) = true) (fix_ 16 s5.1)) fun k9 =>
      Option.bind (gd ((s5.2 && r8) = true) (fix_ 16 s5.1)) fun k10 =>
      letM ((s5.2 && r8) && (decide (((a1.Moved.get k9).get k10) = 0))) fun v11 =>
      some (.inl ((wr .i64 (s5.1 + 1)), v11))
    else
      some (.inr s5.2)
def usufructref03_Right (a1 : TRights) : Option (Bool) :=
  Option.bind (usufructref02_Right a1.Given) fun r2 =>
  Option.bind (gd (r2 = true) (usufructref02_Right a1.Used)) fun r3 =>
  Option.bind (loopM (usufructref03_Right_L1 a1) fuel (0, (r2 && r3))) fun x6 =>
  some x6
def usufructref01_Add (a1 : Int) (a2 : Int) : Option (Int × Int) :=
  Option.bind (usufructref01_Is a1) fun r3 =>
  Option.bind (gd ((!r3) = false) (usufructref01_Is a2)) fun r4 =>
  Option.bind (gd (((!r3) || (!r4)) = false) (usufructref01_Is (wr .i64 (a1 + a2)))) fun r5 =>
  if (((!r3) || (!r4)) || (!r5)) = true then
    some (0, 2)
  else
    some ((wr .i64 (a1 + a2)), 0)
def usufructref01_Sum_L1 (a1 : List Int) (s3 : Int × Int) : Option ((Int × Int) ⊕ (Int ⊕ (Int × Int))) :=
  if (decide (s3.1 < (a1.length : Int))) = true then
      Option.bind (six a1 s3.1) fun j5 =>
      Option.bind (usufructref01_Add s3.2 (a1.getD j5 default)) fun r6 =>
      if (!decide (r6.2 = 0)) = true then
        some (.inr (.inr (0, r6.2)))
      else
        some (.inl ((wr .i64 (s3.1 + 1)), r6.1))
    else
      some (.inr (.inl s3.2))
def usufructref01_Sum (a1 : List Int) : Option (Int × Int) :=
  Option.bind (loopM (usufructref01_Sum_L1 a1) fuel (0, 0)) (onS (fun x4 => some (x4, 0))
  (fun r => some r))
def usufructref02_Sum (a1 : Vector Int 16) : Option (Int × Int) :=
  Option.bind (usufructref01_Sum a1.toList) fun r2 =>
  some (r2.1, r2.2)
def usufructref04_Right (a1 : TCounter) : Option (Bool) :=
  Option.bind (usufructref01_Is a1.Init) fun r2 =>
  Option.bind (gd ((!r2) = false) (usufructref01_Is a1.Low)) fun r3 =>
  Option.bind (gd (((!r2) || (!r3)) = false) (usufructref01_Is a1.High)) fun r4 =>
  letM (((((!r2) || (!r3)) || (!r4)) || (decide (a1.Init < a1.Low))) || (decide (a1.High < a1.Init))) fun v5 =>
  Option.bind (gd (v5 = false) (usufructref03_Right a1.Down)) fun r6 =>
  Option.bind (gd ((v5 || (!r6)) = false) (usufructref03_Right a1.Up)) fun r7 =>
  if ((v5 || (!r6)) || (!r7)) = true then
    some false
  else
    Option.bind (usufructref02_Sum a1.Down.Given) fun r8 =>
    Option.bind (usufructref02_Sum a1.Up.Used) fun r9 =>
    Option.bind (usufructref01_Add (wr .i64 (a1.Init - a1.Low)) r9.1) fun r10 =>
    Option.bind (usufructref02_Sum a1.Up.Given) fun r11 =>
    Option.bind (usufructref02_Sum a1.Down.Used) fun r12 =>
    Option.bind (usufructref01_Add (wr .i64 (a1.High - a1.Init)) r12.1) fun r13 =>
    letM ((((decide (r8.2 = 0)) && (decide (r9.2 = 0))) && (decide (r10.2 = 0))) && (decide (r11.2 = 0))) fun v14 =>
    letM (((v14 && (decide (r12.2 = 0))) && (decide (r13.2 = 0))) && (decide (r8.1 = r10.1))) fun v15 =>
    letM (v15 && (decide (r11.1 = r13.1))) fun v16 =>
    some v16
def usufructref06_counts (a1 : Int) : Option (Bool) :=
  Option.bind (gd ((decide (0 ≤ a1)) = true) (usufructref01_Is a1)) fun r2 =>
  letM ((decide (0 ≤ a1)) && r2) fun v3 =>
  some v3
def usufructref06_Right (a1 : THold) : Option (Bool) :=
  letM (((decide (0 ≤ a1.Replica)) && (decide (a1.Replica ≤ 15))) && (decide (0 < a1.Number))) fun v2 =>
  Option.bind (gd (v2 = true) (usufructref06_counts a1.Number)) fun r3 =>
  Option.bind (gd ((v2 && r3) = true) (usufructref06_counts a1.Amount)) fun r4 =>
  Option.bind (gd (((v2 && r3) && r4) = true) (usufructref06_counts a1.Due)) fun r5 =>
  letM (((((v2 && r3) && r4) && r5) && (decide (1 ≤ a1.State))) && (decide (a1.State ≤ 3))) fun v6 =>
  some v6
def usufructref06_Ahead (a1 : THold) (a2 : THold) : Option (Bool) :=
  letM ((decide (a1.Replica < a2.Replica)) || ((decide (a1.Replica = a2.Replica)) && (decide (a1.Number < a2.Number)))) fun v3 =>
  some v3
def usufructref06_Rights_L1 (a1 : List THold) (s3 : Int) : Option (Int ⊕ (Unit ⊕ Bool)) :=
  if (decide (s3 < (a1.length : Int))) = true then
      Option.bind (six a1 s3) fun j5 =>
      letM (a1.getD j5 default) fun v6 =>
      Option.bind (usufructref06_Right v6) fun r7 =>
      Option.bind (gd (((!r7) = false) ∧ (decide (0 < s3)) = true) (six a1 (wr .i64 (s3 - 1)))) fun j8 =>
      Option.bind (gd (((!r7) = false) ∧ (decide (0 < s3)) = true) (six a1 s3)) fun j9 =>
      Option.bind (gd (((!r7) = false) ∧ (decide (0 < s3)) = true) (usufructref06_Ahead (a1.getD j8 default) (a1.getD j9 default))) fun r10 =>
      if ((!r7) || ((decide (0 < s3)) && (!r10))) = true then
        some (.inr (.inr false))
      else
        some (.inl (wr .i64 (s3 + 1)))
    else
      some (.inr (.inl ()))
def usufructref06_Rights (a1 : List THold) : Option (Bool) :=
  Option.bind (loopM (usufructref06_Rights_L1 a1) fuel 0) (onS (fun x4 => letM (decide ((a1.length : Int) ≤ 16)) fun v11 =>
    some v11)
  (fun r => some r))
def usufructref05_Right (a1 : TLock) : Option (Bool) :=
  Option.bind (gd ((decide (0 ≤ a1.Seq)) = true) (usufructref01_Is a1.Seq)) fun r2 =>
  Option.bind (gd ((((decide (0 ≤ a1.Seq)) && r2) && (decide (0 ≤ a1.Ver))) = true) (usufructref01_Is a1.Ver)) fun r3 =>
  letM (((((decide (0 ≤ a1.Seq)) && r2) && (decide (0 ≤ a1.Ver))) && r3) && (decide (0 ≤ a1.Holder))) fun v4 =>
  Option.bind (gd ((v4 && (decide (a1.Holder ≤ 15))) = true) (usufructref01_Is a1.Value)) fun r5 =>
  letM ((v4 && (decide (a1.Holder ≤ 15))) && r5) fun v6 =>
  some v6
def usufructref07_Right (a1 : TField) : Option (Bool) :=
  Option.bind (usufructref07_Name a1.Name) fun r2 =>
  Option.bind (gd (((!r2) || (decide (a1.Epoch < 0))) = false) (usufructref01_Is a1.Epoch)) fun r3 =>
  if (((!r2) || (decide (a1.Epoch < 0))) || (!r3)) = true then
    some false
  else
    if (decide (a1.Kind = 1)) = true then
      Option.bind (usufructref04_Right a1.Counter) fun r4 =>
      Option.bind (gd (r4 = true) (usufructref06_Rights a1.Holds)) fun r5 =>
      letM ((r4 && r5) && (decide (a1.Lock = (⟨0, 0, 0, 0⟩ : TLock)))) fun v6 =>
      some v6
    else
      Option.bind (gd ((decide (a1.Kind = 2)) = true) (usufructref05_Right a1.Lock)) fun r7 =>
      letM (((decide (a1.Kind = 2)) && r7) && (decide ((a1.Holds.length : Int) = 0))) fun v8 =>
      letM (v8 && (decide (a1.Counter = (⟨0, 0, 0, (default : TRights), (default : TRights)⟩ : TCounter)))) fun v9 =>
      some v9
def usufructref13_before_L1 (a1 : ByteArray) (a2 : ByteArray) (s4 : Int) : Option (Int ⊕ (Unit ⊕ Bool)) :=
  if ((decide (s4 < (a1.size : Int))) && (decide (s4 < (a2.size : Int)))) = true then
      Option.bind (bix a1 s4) fun n6 =>
      Option.bind (bix a2 s4) fun n7 =>
      if (!decide (n6 = n7)) = true then
        Option.bind (bix a1 s4) fun n8 =>
        Option.bind (bix a2 s4) fun n9 =>
        some (.inr (.inr (decide (n8 < n9))))
      else
        some (.inl (wr .i64 (s4 + 1)))
    else
      some (.inr (.inl ()))
def usufructref13_before (a1 : ByteArray) (a2 : ByteArray) : Option (Bool) :=
  Option.bind (loopM (usufructref13_before_L1 a1 a2) fuel 0) (onS (fun x5 => letM (decide ((a1.size : Int) < (a2.size : Int))) fun v10 =>
    some v10)
  (fun r => some r))
def usufructref13_Fields_L1 (a1 : List TField) (s3 : Int) : Option (Int ⊕ (Unit ⊕ Bool)) :=
  if (decide (s3 < (a1.length : Int))) = true then
      Option.bind (six a1 s3) fun j5 =>
      letM (a1.getD j5 default) fun v6 =>
      Option.bind (usufructref07_Right v6) fun r7 =>
      Option.bind (gd (((!r7) = false) ∧ (decide (0 < s3)) = true) (six a1 (wr .i64 (s3 - 1)))) fun j8 =>
      Option.bind (gd (((!r7) = false) ∧ (decide (0 < s3)) = true) (six a1 s3)) fun j9 =>
      Option.bind (gd (((!r7) = false) ∧ (decide (0 < s3)) = true) (usufructref13_before ((a1.getD j8 default).Name) ((a1.getD j9 default).Name))) fun r10 =>
      if ((!r7) || ((decide (0 < s3)) && (!r10))) = true then
        some (.inr (.inr false))
      else
        some (.inl (wr .i64 (s3 + 1)))
    else
      some (.inr (.inl ()))
def usufructref13_Fields (a1 : List TField) : Option (Bool) :=
  Option.bind (loopM (usufructref13_Fields_L1 a1) fuel 0) (onS (fun x4 => letM (decide ((a1.length : Int) ≤ 4)) fun v11 =>
    some v11)
  (fun r => some r))
def usufructref13_Right (a1 : TPlan) : Option (Bool) :=
  Option.bind (gd (((decide (a1.Kind < 1)) || (decide (6 < a1.Kind))) = false) (usufructref07_Name a1.Name)) fun r2 =>
  Option.bind (gd ((((decide (a1.Kind < 1)) || (decide (6 < a1.Kind))) || (!r2)) = false) (usufructref01_Is a1.A)) fun r3 =>
  letM ((((decide (a1.Kind < 1)) || (decide (6 < a1.Kind))) || (!r2)) || (!r3)) fun v4 =>
  Option.bind (gd (v4 = false) (usufructref01_Is a1.B)) fun r5 =>
  if (v4 || (!r5)) = true then
    some false
  else
    Option.bind (usufructref07_Name a1.Other) fun r6 =>
    letM (r6 && (!decide (a1.Other = a1.Name))) fun v7 =>
    if (decide (a1.Kind ≤ 2)) = true then
      letM (((decide (a1.Other = (⟨#[]⟩ : ByteArray))) && (decide (0 ≤ a1.A))) && (decide (0 ≤ a1.B))) fun v8 =>
      letM (v8 && ((decide (0 < a1.A)) || (decide (0 < a1.B)))) fun v9 =>
      some v9
    else
      if (decide (a1.Kind = 3)) = true then
        letM (((decide (a1.Other = (⟨#[]⟩ : ByteArray))) && (decide (a1.A = 0))) && (decide (a1.B = 0))) fun v10 =>
        some v10
      else
        if (decide (a1.Kind = 4)) = true then
          letM ((decide (a1.Other = (⟨#[]⟩ : ByteArray))) && (decide (a1.A ≤ a1.B))) fun v11 =>
          some v11
        else
          if (decide (a1.Kind = 5)) = true then
            letM ((v7 && (decide (0 < a1.A))) && (decide (a1.B = 0))) fun v12 =>
            some v12
          else
            letM ((v7 && (decide (a1.A = 0))) && (decide (a1.B = 0))) fun v13 =>
            some v13
def usufructref13_at_L1 (a1 : List TField) (a2 : ByteArray) (s4 : Int) : Option (Int ⊕ (Unit ⊕ Int)) :=
  if (decide (s4 < (a1.length : Int))) = true then
      Option.bind (six a1 s4) fun j6 =>
      if (decide ((a1.getD j6 default).Name = a2)) = true then
        some (.inr (.inr s4))
      else
        some (.inl (wr .i64 (s4 + 1)))
    else
      some (.inr (.inl ()))
def usufructref13_at (a1 : List TField) (a2 : ByteArray) : Option (Int) :=
  Option.bind (loopM (usufructref13_at_L1 a1 a2) fuel 0) (onS (fun x5 => some (-1))
  (fun r => some r))
def usufructref13_held_L1 (a1 : TField) (s3 : Int) : Option (Int ⊕ (Unit ⊕ Bool)) :=
  if (decide (s3 < (a1.Holds.length : Int))) = true then
      Option.bind (six a1.Holds s3) fun j5 =>
      if (decide ((a1.Holds.getD j5 default).State = 1)) = true then
        some (.inr (.inr true))
      else
        some (.inl (wr .i64 (s3 + 1)))
    else
      some (.inr (.inl ()))
def usufructref13_held (a1 : TField) : Option (Bool) :=
  Option.bind (loopM (usufructref13_held_L1 a1) fuel 0) (onS (fun x4 => some false)
  (fun r => some r))
def usufructref13_Fits (a1 : List TField) (a2 : TPlan) : Option (Int) :=
  Option.bind (usufructref13_Fields a1) fun r3 =>
  if (!r3) = true then
    some 1
  else
    Option.bind (usufructref13_Right a2) fun r4 =>
    if (!r4) = true then
      some 14
    else
      Option.bind (usufructref13_at a1 a2.Name) fun r5 =>
      Option.bind (usufructref13_at a1 a2.Other) fun r6 =>
      if ((decide (r5 < 0)) || ((decide (a2.Kind = 6)) && (decide (r6 < 0)))) = true then
        some 10
      else
        if ((decide (a2.Kind = 5)) && (decide (0 ≤ r6))) = true then
          some 11
        else
          if ((decide (a2.Kind = 5)) && (decide (4 ≤ (a1.length : Int)))) = true then
            some 7
          else
            if (decide (a2.Kind = 4)) = true then
              Option.bind (six a1 r5) fun j7 =>
              Option.bind (gd (((!decide ((a1.getD j7 default).Kind = 2)) = false) ∧ (decide (a2.Kind = 6)) = true) (six a1 r6)) fun j8 =>
              letM ((!decide ((a1.getD j7 default).Kind = 2)) || ((decide (a2.Kind = 6)) && (!decide ((a1.getD j8 default).Kind = 2)))) fun v9 =>
              if v9 = true then
                some 17
              else
                Option.bind (six a1 r5) fun j10 =>
                letM (a1.getD j10 default) fun v11 =>
                Option.bind (usufructref13_held v11) fun r12 =>
                Option.bind (gd ((r12 = false) ∧ (decide (a2.Kind = 6)) = true) (six a1 r6)) fun j13 =>
                Option.bind (gd ((r12 = false) ∧ (decide (a2.Kind = 6)) = true) (usufructref13_held (a1.getD j13 default))) fun r14 =>
                if (r12 || ((decide (a2.Kind = 6)) && r14)) = true then
                  some 12
                else
                  some 0
            else
              Option.bind (six a1 r5) fun j15 =>
              Option.bind (gd (((!decide ((a1.getD j15 default).Kind = 1)) = false) ∧ (decide (a2.Kind = 6)) = true) (six a1 r6)) fun j16 =>
              letM ((!decide ((a1.getD j15 default).Kind = 1)) || ((decide (a2.Kind = 6)) && (!decide ((a1.getD j16 default).Kind = 1)))) fun v17 =>
              if v17 = true then
                some 17
              else
                Option.bind (six a1 r5) fun j18 =>
                letM (a1.getD j18 default) fun v19 =>
                Option.bind (usufructref13_held v19) fun r20 =>
                Option.bind (gd ((r20 = false) ∧ (decide (a2.Kind = 6)) = true) (six a1 r6)) fun j21 =>
                Option.bind (gd ((r20 = false) ∧ (decide (a2.Kind = 6)) = true) (usufructref13_held (a1.getD j21 default))) fun r22 =>
                if (r20 || ((decide (a2.Kind = 6)) && r22)) = true then
                  some 12
                else
                  some 0
def usufructref04_Value_L1 (a1 : TCounter) (s3 : Int × (List Int)) : Option ((Int × (List Int)) ⊕ ((List Int))) :=
  if (decide (s3.1 < 16)) = true then
      Option.bind (fix_ 16 s3.1) fun k5 =>
      Option.bind (app 8 s3.2 [(a1.Up.Used.get k5)]) fun l6 =>
      some (.inl ((wr .i64 (s3.1 + 1)), l6))
    else
      some (.inr s3.2)
def usufructref04_Value_L2 (a1 : TCounter) (s8 : Int × (List Int)) : Option ((Int × (List Int)) ⊕ ((List Int))) :=
  if (decide (s8.1 < 16)) = true then
        Option.bind (fix_ 16 s8.1) fun k10 =>
        Option.bind (app 8 s8.2 [(wr .i64 (0 - (a1.Down.Used.get k10)))]) fun l11 =>
        some (.inl ((wr .i64 (s8.1 + 1)), l11))
      else
        some (.inr s8.2)
def usufructref04_Value (a1 : TCounter) : Option (Int × Int) :=
  Option.bind (loopM (usufructref04_Value_L1 a1) fuel (0, [a1.Init])) fun x4 =>
  Option.bind (loopM (usufructref04_Value_L2 a1) fuel (0, x4)) fun x9 =>
    Option.bind (usufructref01_Sum x9) fun r12 =>
      some (r12.1, r12.2)
def usufructref07_View (a1 : TField) : Option (Int × Int) :=
  if (decide (a1.Kind = 1)) = true then
    Option.bind (usufructref04_Value a1.Counter) fun r2 =>
    some (r2.1, r2.2)
  else
    if (decide (a1.Kind = 2)) = true then
      some (a1.Lock.Value, 0)
    else
      some (0, 17)
def usufructref04_New (a1 : Int) (a2 : Int) (a3 : Int) : Option (TCounter × Int) :=
  Option.bind (usufructref01_Is a1) fun r4 =>
  Option.bind (gd ((!r4) = false) (usufructref01_Is a2)) fun r5 =>
  Option.bind (gd (((!r4) || (!r5)) = false) (usufructref01_Is a3)) fun r6 =>
  letM (((((!r4) || (!r5)) || (!r6)) || (decide (a1 < a2))) || (decide (a3 < a1))) fun v7 =>
  if (v7 || (decide (1099511627776 < (wr .i64 (a3 - a2))))) = true then
    letM (⟨0, 0, 0, (default : TRights), (default : TRights)⟩ : TCounter) fun v8 =>
    some (v8, 2)
  else
    letM (⟨a1, a2, a3, (default : TRights), (default : TRights)⟩ : TCounter) fun v9 =>
    Option.bind (fix_ 16 0) fun k10 =>
    letM ({ v9 with Down := { v9.Down with Given := (v9.Down.Given.set k10.val (wr .i64 (a1 - a2))) } }) fun v11 =>
    Option.bind (fix_ 16 0) fun k12 =>
    letM ({ v11 with Up := { v11.Up with Given := (v11.Up.Given.set k12.val (wr .i64 (a3 - a1))) } }) fun v13 =>
    some (v13, 0)
def usufructref13_count (a1 : ByteArray) (a2 : Int) (a3 : Int) (a4 : Int) (a5 : Int) : Option (TField × Int) :=
  Option.bind (usufructref01_Is a2) fun r6 =>
  Option.bind (gd ((!r6) = false) (usufructref01_Is a3)) fun r7 =>
  Option.bind (gd (((!r6) || (!r7)) = false) (usufructref01_Is a4)) fun r8 =>
  Option.bind (gd ((((!r6) || (!r7)) || (!r8)) = false) (usufructref01_Is a5)) fun r9 =>
  Option.bind (gd (((((!r6) || (!r7)) || (!r8)) || (!r9)) = false) (usufructref01_Is (wr .i64 (a5 - a4)))) fun r10 =>
  if (((((!r6) || (!r7)) || (!r8)) || (!r9)) || (!r10)) = true then
    letM (⟨(default : ByteArray), 0, 0, (default : TCounter), (default : TLock), ([] : List THold)⟩ : TField) fun v11 =>
    some (v11, 2)
  else
    Option.bind (usufructref04_New a3 a4 a5) fun r12 =>
    if (!decide (r12.2 = 0)) = true then
      letM (⟨(default : ByteArray), 0, 0, (default : TCounter), (default : TLock), ([] : List THold)⟩ : TField) fun v13 =>
      some (v13, 14)
    else
      letM (⟨a1, 1, a2, r12.1, (default : TLock), ([] : List THold)⟩ : TField) fun v14 =>
      some (v14, 0)
def usufructref13_put_own_L1 (a1 : List TField) (a2 : TField) (s4 : Int) : Option (Int ⊕ Int) :=
  Option.bind (gd ((decide (s4 < (a1.length : Int))) = true) (six a1 s4)) fun j6 =>
    Option.bind (gd ((decide (s4 < (a1.length : Int))) = true) (usufructref13_before ((a1.getD j6 default).Name) a2.Name)) fun r7 =>
    if ((decide (s4 < (a1.length : Int))) && r7) = true then
      some (.inl (wr .i64 (s4 + 1)))
    else
      some (.inr s4)
def usufructref13_put_own (a1 : List TField) (a2 : TField) : Option ((List TField)) :=
  Option.bind (loopM (usufructref13_put_own_L1 a1 a2) fuel 0) fun x5 =>
  Option.bind (ssl a1 0 x5) fun l8 =>
    Option.bind (app 4720 ([] : List TField) l8) fun l9 =>
    Option.bind (app 4720 l9 [a2]) fun l10 =>
    Option.bind (ssl a1 x5 (a1.length : Int)) fun l11 =>
    Option.bind (app 4720 l10 l11) fun l12 =>
    some l12
def usufructref13_Apply_own_L1 (a1 : List TField) (a2 : TPlan) (s9 : (List TField) × Int) : Option (((List TField) × Int) ⊕ ((List TField))) :=
  if (decide (s9.2 < (a1.length : Int))) = true then
          Option.bind (six a1 s9.2) fun j11 =>
          Option.bind (gd (((!decide ((a1.getD j11 default).Name = a2.Name)) = true) ∧ (decide (a2.Kind = 6)) = true) (six a1 s9.2)) fun j12 =>
          letM ((!decide ((a1.getD j11 default).Name = a2.Name)) && (!((decide (a2.Kind = 6)) && (decide ((a1.getD j12 default).Name = a2.Other))))) fun v13 =>
          if v13 = true then
            Option.bind (six a1 s9.2) fun j14 =>
            letM (a1.getD j14 default) fun v15 =>
            Option.bind (app 4720 s9.1 [v15]) fun l16 =>
            some (.inl (l16, (wr .i64 (s9.2 + 1))))
          else
            some (.inl (s9.1, (wr .i64 (s9.2 + 1))))
        else
          some (.inr s9.1)
def usufructref13_Apply_own (a1 : List TField) (a2 : TPlan) : Option ((List TField) × Int) :=
  Option.bind (usufructref13_Fits a1 a2) fun r3 =>
  if (!decide (r3 = 0)) = true then
    some (([] : List TField), r3)
  else
    Option.bind (usufructref13_at a1 a2.Name) fun r4 =>
    Option.bind (six a1 r4) fun j5 =>
    letM (a1.getD j5 default) fun v6 =>
    Option.bind (usufructref07_View v6) fun r7 =>
    if (!decide (r7.2 = 0)) = true then
      some (([] : List TField), 2)
    else
      Option.bind (loopM (usufructref13_Apply_own_L1 a1 a2) fuel (([] : List TField), 0)) fun x10 =>
      letM (⟨(default : ByteArray), 0, 0, (default : TCounter), (default : TLock), ([] : List THold)⟩ : TField) fun v17 =>
        if (decide (a2.Kind = 1)) = true then
          Option.bind (usufructref13_count a2.Name (wr .i64 (v6.Epoch + 1)) r7.1 (wr .i64 (v6.Counter.Low + a2.A)) (wr .i64 (v6.Counter.High - a2.B))) fun r18 =>
          if (!decide (r18.2 = 0)) = true then
            some (([] : List TField), r18.2)
          else
            Option.bind (usufructref13_put_own x10 r18.1) fun r19 =>
            some (r19, 0)
        else
          if (decide (a2.Kind = 2)) = true then
            Option.bind (usufructref13_count a2.Name (wr .i64 (v6.Epoch + 1)) r7.1 (wr .i64 (v6.Counter.Low - a2.A)) (wr .i64 (v6.Counter.High + a2.B))) fun r20 =>
            if (!decide (r20.2 = 0)) = true then
              some (([] : List TField), r20.2)
            else
              Option.bind (usufructref13_put_own x10 r20.1) fun r21 =>
              some (r21, 0)
          else
            if (decide (a2.Kind = 3)) = true then
              letM (⟨0, 0, 0, r7.1⟩ : TLock) fun v22 =>
              letM (⟨a2.Name, 2, (wr .i64 (v6.Epoch + 1)), (default : TCounter), v22, ([] : List THold)⟩ : TField) fun v23 =>
              Option.bind (usufructref01_Is (wr .i64 (v6.Epoch + 1))) fun r24 =>
              Option.bind (gd ((!r24) = false) (usufructref01_Is r7.1)) fun r25 =>
              if ((!r24) || (!r25)) = true then
                if (!decide (2 = 0)) = true then
                  some (([] : List TField), 2)
                else
                  Option.bind (usufructref13_put_own x10 v23) fun r26 =>
                  some (r26, 0)
              else
                if (!decide (r7.2 = 0)) = true then
                  some (([] : List TField), r7.2)
                else
                  Option.bind (usufructref13_put_own x10 v23) fun r27 =>
                  some (r27, 0)
            else
              if (decide (a2.Kind = 4)) = true then
                Option.bind (usufructref13_count a2.Name (wr .i64 (v6.Epoch + 1)) r7.1 a2.A a2.B) fun r28 =>
                if (!decide (r28.2 = 0)) = true then
                  some (([] : List TField), r28.2)
                else
                  Option.bind (usufructref13_put_own x10 r28.1) fun r29 =>
                  some (r29, 0)
              else
                if (decide (a2.Kind = 5)) = true then
                  letM (max 0 (wr .i64 ((wr .i64 (r7.1 - v6.Counter.High)) + a2.A))) fun v30 =>
                  Option.bind (usufructref13_count a2.Other (wr .i64 (v6.Epoch + 1)) v30 0 a2.A) fun r31 =>
                  if (!decide (r31.2 = 0)) = true then
                    some (([] : List TField), r31.2)
                  else
                    Option.bind (usufructref13_put_own x10 r31.1) fun r32 =>
                    Option.bind (usufructref13_count a2.Name (wr .i64 (v6.Epoch + 1)) (wr .i64 (r7.1 - v30)) v6.Counter.Low (wr .i64 (v6.Counter.High - a2.A))) fun r33 =>
                    if (!decide (r33.2 = 0)) = true then
                      some (([] : List TField), r33.2)
                    else
                      Option.bind (usufructref13_put_own r32 r33.1) fun r34 =>
                      some (r34, 0)
                else
                  Option.bind (usufructref13_at a1 a2.Other) fun r35 =>
                  Option.bind (six a1 r35) fun j36 =>
                  letM (a1.getD j36 default) fun v37 =>
                  Option.bind (usufructref07_View v37) fun r38 =>
                  if (!decide (r38.2 = 0)) = true then
                    some (([] : List TField), 2)
                  else
                    Option.bind (usufructref13_count a2.Name (wr .i64 ((max v6.Epoch v37.Epoch) + 1)) (wr .i64 (r7.1 + r38.1)) (wr .i64 (v6.Counter.Low + v37.Counter.Low)) (wr .i64 (v6.Counter.High + v37.Counter.High))) fun r39 =>
                    if (!decide (r39.2 = 0)) = true then
                      some (([] : List TField), r39.2)
                    else
                      Option.bind (usufructref13_put_own x10 r39.1) fun r40 =>
                      some (r40, 0)
def usufructref07_Same_L1 (a1 : TField) (a2 : TField) (s6 : Int) : Option (Int ⊕ (Unit ⊕ Bool)) :=
  if (decide (s6 < (a1.Holds.length : Int))) = true then
        Option.bind (six a1.Holds s6) fun j8 =>
        letM (a1.Holds.getD j8 default) fun v9 =>
        Option.bind (six a2.Holds s6) fun j10 =>
        letM (a2.Holds.getD j10 default) fun v11 =>
        if (!decide (v9 = v11)) = true then
          some (.inr (.inr false))
        else
          some (.inl (wr .i64 (s6 + 1)))
      else
        some (.inr (.inl ()))
def usufructref07_Same (a1 : TField) (a2 : TField) : Option (Bool) :=
  letM (((!decide (a1.Name = a2.Name)) || (!decide (a1.Kind = a2.Kind))) || (!decide (a1.Epoch = a2.Epoch))) fun v3 =>
  letM ((v3 || (!decide (a1.Counter = a2.Counter))) || (!decide (a1.Lock = a2.Lock))) fun v4 =>
  if (v4 || (!decide ((a1.Holds.length : Int) = (a2.Holds.length : Int)))) = true then
    some false
  else
    Option.bind (loopM (usufructref07_Same_L1 a1 a2) fuel 0) (onS (fun x7 => some true)
    (fun r => some r))
def usufructlaw13_Same_L1 (a1 : List TField) (a2 : List TField) (s4 : Int) : Option (Int ⊕ (Unit ⊕ Bool)) :=
  if (decide (s4 < (a1.length : Int))) = true then
        Option.bind (six a1 s4) fun j6 =>
        letM (a1.getD j6 default) fun v7 =>
        Option.bind (six a2 s4) fun j8 =>
        letM (a2.getD j8 default) fun v9 =>
        Option.bind (usufructref07_Same v7 v9) fun r10 =>
        if (!r10) = true then
          some (.inr (.inr false))
        else
          some (.inl (wr .i64 (s4 + 1)))
      else
        some (.inr (.inl ()))
def usufructlaw13_Same (a1 : List TField) (a2 : List TField) : Option (Bool) :=
  if (!decide ((a1.length : Int) = (a2.length : Int))) = true then
    some false
  else
    Option.bind (loopM (usufructlaw13_Same_L1 a1 a2) fuel 0) (onS (fun x5 => some true)
    (fun r => some r))
def usufructlaw16_BarrierMakes_L1 (a2 : TPlan) (a3 : List (List TField)) (s13 : Int × Tbarrier_Barrier) : Option ((Int × Tbarrier_Barrier) ⊕ (Tbarrier_Barrier ⊕ Bool)) :=
  if (decide (s13.1 < (a3.length : Int))) = true then
          Option.bind (six a3 s13.1) fun j15 =>
          Option.bind (usufructlaw13_Few (a3.getD j15 default) a2) fun r16 =>
          if (!r16) = true then
            Option.bind (usufructlaw16_awake) fun r17 =>
            some (.inr (.inr r17))
          else
            Option.bind (barrier_Ack s13.2 (wr .i64 (s13.1 + 1)) 1 (a3.getD j15 default)) fun r18 =>
            if (!decide (r18.2 = 0)) = true then
              Option.bind (usufructlaw16_awake) fun r19 =>
              some (.inr (.inr r19))
            else
              some (.inl ((wr .i64 (s13.1 + 1)), r18.1))
        else
          some (.inr (.inl s13.2))
def usufructlaw16_BarrierMakes_L2 (x14 : Tbarrier_Barrier) (r20 : (List TField) × Int) (s24 : Int × (List TField)) : Option ((Int × (List TField)) ⊕ ((List TField))) :=
  if (decide (s24.1 < ((r20.1.length : Nat) : Int))) = true then
              Option.bind (six s24.2 s24.1) fun j26 =>
              letM (s24.2.set j26 ({ (s24.2.getD j26 default) with Epoch := x14.Epoch })) fun v27 =>
              some (.inl ((wr .i64 (s24.1 + 1)), v27))
            else
              some (.inr s24.2)
def usufructlaw16_BarrierMakes_L3 (a1 : List TField) (x14 : Tbarrier_Barrier) (s29 : Int) : Option (Int ⊕ (Unit ⊕ Bool)) :=
  if (decide (s29 < (a1.length : Int))) = true then
                Option.bind (six a1 s29) fun j31 =>
                letM (a1.getD j31 default) fun v32 =>
                if (decide (x14.Epoch ≤ v32.Epoch)) = true then
                  some (.inr (.inr false))
                else
                  some (.inl (wr .i64 (s29 + 1)))
              else
                some (.inr (.inl ()))
def usufructlaw16_BarrierMakes (a1 : List TField) (a2 : TPlan) (a3 : List (List TField)) : Option (Bool) :=
  Option.bind (usufructlaw13_Few a1 a2) fun r4 =>
  letM (((!r4) || (decide ((a3.length : Int) < 1))) || (decide (15 < (a3.length : Int)))) fun v5 =>
  if v5 = true then
    Option.bind (usufructlaw16_awake) fun r6 =>
    some r6
  else
    Option.bind (barrier_New (wr .i64 ((a3.length : Int) + 1))) fun r7 =>
    Option.bind (barrier_Start r7.1 a1 a2 0) fun r8 =>
    if ((!decide (r7.2 = 0)) || (!decide (r8.2 = 0))) = true then
      Option.bind (usufructref13_Fits a1 a2) fun r9 =>
      Option.bind (gd (((decide (r8.2 = r9)) || (decide (r8.2 = 2))) = true) (usufructlaw16_awake)) fun r10 =>
      letM (((decide (r8.2 = r9)) || (decide (r8.2 = 2))) && r10) fun v11 =>
      some v11
    else
      Option.bind (loopM (usufructlaw16_BarrierMakes_L1 a2 a3) fuel (0, r8.1)) (onS (fun x14 => Option.bind (usufructref13_Apply_own x14.Joined a2) fun r20 =>
        if (!decide (r20.2 = 0)) = true then
          Option.bind (gd (((decide (x14.State = 3)) && (decide ((x14.Made.length : Int) = 0))) = true) (usufructlaw16_awake)) fun r21 =>
          letM (((decide (x14.State = 3)) && (decide ((x14.Made.length : Int) = 0))) && r21) fun v22 =>
          some v22
        else
          Option.bind (loopM (usufructlaw16_BarrierMakes_L2 x14 r20) fuel (0, r20.1)) fun x25 =>
          Option.bind (loopM (usufructlaw16_BarrierMakes_L3 a1 x14) fuel 0) (onS (fun x30 => if (decide (x14.State = 2)) = true then
                Option.bind (usufructlaw13_Same x14.Made x25) fun r33 =>
                Option.bind (gd (r33 = true) (usufructlaw16_awake)) fun r34 =>
                some (r33 && r34)
              else
                some false)
            (fun r => some r)))
      (fun r => some r))
end Go.Av
