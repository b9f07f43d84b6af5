/- What the functions tell, as plain functions on typed values. -/
import Derived.Test.YtakadpmjdhcckaaAvWireJoinsK2
namespace Go.Av
set_option linter.unusedSectionVars false
set_option linter.unusedSimpArgs false
set_option linter.unusedVariables false
abbrev E_A16_i64 (x : Vector Int 16) : V := .arr 1 (x.toList.map (V.int .i64))
theorem ty_A16_i64 : TyOk E_A16_i64 16 true := TyOk.arr (k := 16) (TyOk.int .i64)
abbrev E_A16_A16_i64 (x : Vector (Vector Int 16) 16) : V := .arr 16 (x.toList.map E_A16_i64)
theorem ty_A16_A16_i64 : TyOk E_A16_A16_i64 256 true := TyOk.arr (k := 16) ty_A16_i64
structure TRights where
  Given : Vector Int 16
  Used : Vector Int 16
  Moved : Vector (Vector Int 16) 16
  deriving DecidableEq, Inhabited
abbrev E_TRights (x : TRights) : V := .st [E_A16_i64 x.Given, E_A16_i64 x.Used, E_A16_A16_i64 x.Moved]
theorem ty_TRights : TyOk E_TRights 288 true := ⟨fun x => fl_st (flL_c (ty_A16_i64.fl _) (flL_c (ty_A16_i64.fl _) (flL_c (ty_A16_A16_i64.fl _) flL_nil))), fun _ => rfl, fun _ => rfl, fun x m => lt_st (ltL_c (ty_A16_i64.lt _ _) (ltL_c (ty_A16_i64.lt _ _) (ltL_c (ty_A16_A16_i64.lt _ _) ltL_nil))), fun _ => rfl⟩
structure TCounter where
  Init : Int
  Low : Int
  High : Int
  Down : TRights
  Up : TRights
  deriving DecidableEq, Inhabited
abbrev E_TCounter (x : TCounter) : V := .st [(V.int .i64) x.Init, (V.int .i64) x.Low, (V.int .i64) x.High, E_TRights x.Down, E_TRights x.Up]
theorem ty_TCounter : TyOk E_TCounter 579 true := ⟨fun x => fl_st (flL_c ((TyOk.int .i64).fl _) (flL_c ((TyOk.int .i64).fl _) (flL_c ((TyOk.int .i64).fl _) (flL_c (ty_TRights.fl _) (flL_c (ty_TRights.fl _) flL_nil))))), fun _ => rfl, fun _ => rfl, fun x m => lt_st (ltL_c ((TyOk.int .i64).lt _ _) (ltL_c ((TyOk.int .i64).lt _ _) (ltL_c ((TyOk.int .i64).lt _ _) (ltL_c (ty_TRights.lt _ _) (ltL_c (ty_TRights.lt _ _) ltL_nil))))), fun _ => rfl⟩
structure TLock where
  Seq : Int
  Ver : Int
  Holder : Int
  Value : Int
  deriving DecidableEq, Inhabited
abbrev E_TLock (x : TLock) : V := .st [(V.int .i64) x.Seq, (V.int .i64) x.Ver, (V.int .i64) x.Holder, (V.int .i64) x.Value]
theorem ty_TLock : TyOk E_TLock 4 true := ⟨fun x => fl_st (flL_c ((TyOk.int .i64).fl _) (flL_c ((TyOk.int .i64).fl _) (flL_c ((TyOk.int .i64).fl _) (flL_c ((TyOk.int .i64).fl _) flL_nil)))), fun _ => rfl, fun _ => rfl, fun x m => lt_st (ltL_c ((TyOk.int .i64).lt _ _) (ltL_c ((TyOk.int .i64).lt _ _) (ltL_c ((TyOk.int .i64).lt _ _) (ltL_c ((TyOk.int .i64).lt _ _) ltL_nil)))), fun _ => rfl⟩
structure THold where
  Replica : Int
  Number : Int
  Amount : Int
  Due : Int
  State : Int
  deriving DecidableEq, Inhabited
abbrev E_THold (x : THold) : V := .st [(V.int .i64) x.Replica, (V.int .i64) x.Number, (V.int .i64) x.Amount, (V.int .i64) x.Due, (V.int .i64) x.State]
theorem ty_THold : TyOk E_THold 5 true := ⟨fun x => fl_st (flL_c ((TyOk.int .i64).fl _) (flL_c ((TyOk.int .i64).fl _) (flL_c ((TyOk.int .i64).fl _) (flL_c ((TyOk.int .i64).fl _) (flL_c ((TyOk.int .i64).fl _) flL_nil))))), fun _ => rfl, fun _ => rfl, fun x m => lt_st (ltL_c ((TyOk.int .i64).lt _ _) (ltL_c ((TyOk.int .i64).lt _ _) (ltL_c ((TyOk.int .i64).lt _ _) (ltL_c ((TyOk.int .i64).lt _ _) (ltL_c ((TyOk.int .i64).lt _ _) ltL_nil))))), fun _ => rfl⟩
abbrev E_S_THold (x : List THold) : V := .sl 5 .no (x.map E_THold)
theorem ty_S_THold : TyOk E_S_THold 1 false := TyOk.sl ty_THold
structure TField where
  Name : ByteArray
  Kind : Int
  Epoch : Int
  Counter : TCounter
  Lock : TLock
  Holds : List THold
  deriving DecidableEq, Inhabited
abbrev E_TField (x : TField) : V := .st [V.str x.Name, (V.int .i64) x.Kind, (V.int .i64) x.Epoch, E_TCounter x.Counter, E_TLock x.Lock, E_S_THold x.Holds]
theorem ty_TField : TyOk E_TField 587 true := ⟨fun x => fl_st (flL_c (TyOk.str.fl _) (flL_c ((TyOk.int .i64).fl _) (flL_c ((TyOk.int .i64).fl _) (flL_c (ty_TCounter.fl _) (flL_c (ty_TLock.fl _) (flL_c (ty_S_THold.fl _) flL_nil)))))), fun _ => rfl, fun _ => rfl, fun x m => lt_st (ltL_c (TyOk.str.lt _ _) (ltL_c ((TyOk.int .i64).lt _ _) (ltL_c ((TyOk.int .i64).lt _ _) (ltL_c (ty_TCounter.lt _ _) (ltL_c (ty_TLock.lt _ _) (ltL_c (ty_S_THold.lt _ _) ltL_nil)))))), fun _ => rfl⟩
abbrev E_S_i64 (x : List Int) : V := .sl 1 .no (x.map (V.int .i64))
theorem ty_S_i64 : TyOk E_S_i64 1 false := TyOk.sl (TyOk.int .i64)
theorem eqk_TLock : EqOk E_TLock := ⟨fun x y => eqv_st (eqv_c ((eqk_int _).is _ _) (eqv_c ((eqk_int _).is _ _) (eqv_c ((eqk_int _).is _ _) (eqv_c ((eqk_int _).is _ _) eqv_nil)))) (by cases x; cases y; simp [Bool.decide_and])⟩
theorem shk_TLock : ShOk E_TLock (.st [(0, .int .i64), (1, .int .i64), (2, .int .i64), (3, .int .i64)] 4) := ⟨fun x => hasSh_st (flL_c ((TyOk.int .i64).fl x.Seq) (flL_c ((TyOk.int .i64).fl x.Ver) (flL_c ((TyOk.int .i64).fl x.Holder) (flL_c ((TyOk.int .i64).fl x.Value) flL_nil)))) (hasShF_c rfl ((shk_int _).is _) ((TyOk.int .i64).fl x.Seq) (hasShF_c rfl ((shk_int _).is _) ((TyOk.int .i64).fl x.Ver) (hasShF_c rfl ((shk_int _).is _) ((TyOk.int .i64).fl x.Holder) (hasShF_c rfl ((shk_int _).is _) ((TyOk.int .i64).fl x.Value) hasShF_nil))))⟩
theorem eqk_A16_i64 : EqOk E_A16_i64 := eqk_arr (eqk_int _)
theorem shk_A16_i64 : ShOk E_A16_i64 (.arr 16 1 (.int .i64)) := shk_arr (shk_int _)
theorem eqk_A16_A16_i64 : EqOk E_A16_A16_i64 := eqk_arr eqk_A16_i64
theorem shk_A16_A16_i64 : ShOk E_A16_A16_i64 (.arr 16 16 (.arr 16 1 (.int .i64))) := shk_arr shk_A16_i64
theorem eqk_TRights : EqOk E_TRights := ⟨fun x y => eqv_st (eqv_c (eqk_A16_i64.is _ _) (eqv_c (eqk_A16_i64.is _ _) (eqv_c (eqk_A16_A16_i64.is _ _) eqv_nil))) (by cases x; cases y; simp [Bool.decide_and])⟩
theorem shk_TRights : ShOk E_TRights (.st [(0, .arr 16 1 (.int .i64)), (16, .arr 16 1 (.int .i64)), (32, .arr 16 16 (.arr 16 1 (.int .i64)))] 288) := ⟨fun x => hasSh_st (flL_c (ty_A16_i64.fl x.Given) (flL_c (ty_A16_i64.fl x.Used) (flL_c (ty_A16_A16_i64.fl x.Moved) flL_nil))) (hasShF_c rfl (shk_A16_i64.is _) (ty_A16_i64.fl x.Given) (hasShF_c rfl (shk_A16_i64.is _) (ty_A16_i64.fl x.Used) (hasShF_c rfl (shk_A16_A16_i64.is _) (ty_A16_A16_i64.fl x.Moved) hasShF_nil)))⟩
theorem eqk_TCounter : EqOk E_TCounter := ⟨fun x y => eqv_st (eqv_c ((eqk_int _).is _ _) (eqv_c ((eqk_int _).is _ _) (eqv_c ((eqk_int _).is _ _) (eqv_c (eqk_TRights.is _ _) (eqv_c (eqk_TRights.is _ _) eqv_nil))))) (by cases x; cases y; simp [Bool.decide_and])⟩
theorem shk_TCounter : ShOk E_TCounter (.st [(0, .int .i64), (1, .int .i64), (2, .int .i64), (3, .st [(0, .arr 16 1 (.int .i64)), (16, .arr 16 1 (.int .i64)), (32, .arr 16 16 (.arr 16 1 (.int .i64)))] 288), (291, .st [(0, .arr 16 1 (.int .i64)), (16, .arr 16 1 (.int .i64)), (32, .arr 16 16 (.arr 16 1 (.int .i64)))] 288)] 579) := ⟨fun x => hasSh_st (flL_c ((TyOk.int .i64).fl x.Init) (flL_c ((TyOk.int .i64).fl x.Low) (flL_c ((TyOk.int .i64).fl x.High) (flL_c (ty_TRights.fl x.Down) (flL_c (ty_TRights.fl x.Up) flL_nil))))) (hasShF_c rfl ((shk_int _).is _) ((TyOk.int .i64).fl x.Init) (hasShF_c rfl ((shk_int _).is _) ((TyOk.int .i64).fl x.Low) (hasShF_c rfl ((shk_int _).is _) ((TyOk.int .i64).fl x.High) (hasShF_c rfl (shk_TRights.is _) (ty_TRights.fl x.Down) (hasShF_c rfl (shk_TRights.is _) (ty_TRights.fl x.Up) hasShF_nil)))))⟩
abbrev E_A2_i64 (x : Vector Int 2) : V := .arr 1 (x.toList.map (V.int .i64))
theorem ty_A2_i64 : TyOk E_A2_i64 2 true := TyOk.arr (k := 2) (TyOk.int .i64)
abbrev E_A2_A2_i64 (x : Vector (Vector Int 2) 2) : V := .arr 2 (x.toList.map E_A2_i64)
theorem ty_A2_A2_i64 : TyOk E_A2_A2_i64 4 true := TyOk.arr (k := 2) ty_A2_i64
structure Twire_Residue where
  Epoch : Int
  Holds : List THold
  deriving DecidableEq, Inhabited
abbrev E_Twire_Residue (x : Twire_Residue) : V := .st [(V.int .i64) x.Epoch, E_S_THold x.Holds]
theorem ty_Twire_Residue : TyOk E_Twire_Residue 2 true := ⟨fun x => fl_st (flL_c ((TyOk.int .i64).fl _) (flL_c (ty_S_THold.fl _) flL_nil)), fun _ => rfl, fun _ => rfl, fun x m => lt_st (ltL_c ((TyOk.int .i64).lt _ _) (ltL_c (ty_S_THold.lt _ _) ltL_nil)), fun _ => rfl⟩
theorem eqk_THold : EqOk E_THold := ⟨fun x y => eqv_st (eqv_c ((eqk_int _).is _ _) (eqv_c ((eqk_int _).is _ _) (eqv_c ((eqk_int _).is _ _) (eqv_c ((eqk_int _).is _ _) (eqv_c ((eqk_int _).is _ _) eqv_nil))))) (by cases x; cases y; simp [Bool.decide_and])⟩
theorem shk_THold : ShOk E_THold (.st [(0, .int .i64), (1, .int .i64), (2, .int .i64), (3, .int .i64), (4, .int .i64)] 5) := ⟨fun x => hasSh_st (flL_c ((TyOk.int .i64).fl x.Replica) (flL_c ((TyOk.int .i64).fl x.Number) (flL_c ((TyOk.int .i64).fl x.Amount) (flL_c ((TyOk.int .i64).fl x.Due) (flL_c ((TyOk.int .i64).fl x.State) flL_nil))))) (hasShF_c rfl ((shk_int _).is _) ((TyOk.int .i64).fl x.Replica) (hasShF_c rfl ((shk_int _).is _) ((TyOk.int .i64).fl x.Number) (hasShF_c rfl ((shk_int _).is _) ((TyOk.int .i64).fl x.Amount) (hasShF_c rfl ((shk_int _).is _) ((TyOk.int .i64).fl x.Due) (hasShF_c rfl ((shk_int _).is _) ((TyOk.int .i64).fl x.State) hasShF_nil)))))⟩
abbrev E_A4_A2_i64 (x : Vector (Vector Int 2) 4) : V := .arr 2 (x.toList.map E_A2_i64)
theorem ty_A4_A2_i64 : TyOk E_A4_A2_i64 8 true := TyOk.arr (k := 4) ty_A2_i64
def usufructlaw07_Few_L1 (a1 : List TField) (s3 : Int) : Option (Int ⊕ (Unit ⊕ Bool)) :=
  if (decide (s3 < (a1.length : Int))) = true then
      Option.bind (six a1 s3) fun j5 =>
      letM (a1.getD j5 default) fun v6 =>
      letM ((decide (100 < (v6.Name.size : Int))) || (decide (40 < (v6.Holds.length : Int)))) fun v7 =>
      if v7 = true then
        some (.inr (.inr false))
      else
        some (.inl (wr .i64 (s3 + 1)))
    else
      some (.inr (.inl ()))
def usufructlaw07_Few (a1 : List TField) : Option (Bool) :=
  Option.bind (loopM (usufructlaw07_Few_L1 a1) fuel 0) (onS (fun x4 => some true)
  (fun r => some r))
def usufructref07_Name_L1 (a1 : ByteArray) (s3 : Int) : Option (Int ⊕ (Unit ⊕ Bool)) :=
  if (decide (s3 < (a1.size : Int))) = true then
      Option.bind (bix a1 s3) fun n5 =>
      Option.bind (gd ((decide (n5 < 33)) = false) (bix a1 s3)) fun n6 =>
      if ((decide (n5 < 33)) || (decide (126 < n6))) = true then
        some (.inr (.inr false))
      else
        some (.inl (wr .i64 (s3 + 1)))
    else
      some (.inr (.inl ()))
def usufructref07_Name (a1 : ByteArray) : Option (Bool) :=
  Option.bind (loopM (usufructref07_Name_L1 a1) fuel 0) (onS (fun x4 => letM ((decide (0 < (a1.size : Int))) && (decide ((a1.size : Int) ≤ 8))) fun v7 =>
    some v7)
  (fun r => some r))
def usufructref01_Is (a1 : Int) : Option (Bool) :=
  letM ((decide (a1 ≤ 1099511627776)) && (decide ((-1099511627776) ≤ a1))) fun v2 =>
  some v2
def usufructref02_Right_L1 (a1 : Vector Int 16) (s3 : Int) : Option (Int ⊕ (Unit ⊕ Bool)) :=
  if (decide (s3 < 16)) = true then
      Option.bind (fix_ 16 s3) fun k5 =>
      Option.bind (gd ((decide ((a1.get k5) < 0)) = false) (fix_ 16 s3)) fun k6 =>
      if ((decide ((a1.get k5) < 0)) || (decide (1099511627776 < (a1.get k6)))) = true then
        some (.inr (.inr false))
      else
        some (.inl (wr .i64 (s3 + 1)))
    else
      some (.inr (.inl ()))
def usufructref02_Right (a1 : Vector Int 16) : Option (Bool) :=
  Option.bind (loopM (usufructref02_Right_L1 a1) fuel 0) (onS (fun x4 => some true)
  (fun r => some r))
def usufructref03_Right_L1 (a1 : TRights) (s5 : Int × Bool) : Option ((Int × Bool) ⊕ Bool) :=
  if (decide (s5.1 < 16)) = true then
      Option.bind (gd (s5.2 = true) (fix_ 16 s5.1)) fun k7 =>
      Option.bind (gd (s5.2 = true) (usufructref02_Right (a1.Moved.get k7))) fun r8 =>
      Option.bind (gd ((s5.2 && r8) = true) (fix_ 16 s5.1)) fun k9 =>
      Option.bind (gd ((s5.2 && r8) = true) (fix_ 16 s5.1)) fun k10 =>
      letM ((s5.2 && r8) && (decide (((a1.Moved.get k9).get k10) = 0))) fun v11 =>
      some (.inl ((wr .i64 (s5.1 + 1)), v11))
    else
      some (.inr s5.2)
def usufructref03_Right (a1 : TRights) : Option (Bool) :=
  Option.bind (usufructref02_Right a1.Given) fun r2 =>
  Option.bind (gd (r2 = true) (usufructref02_Right a1.Used)) fun r3 =>
  Option.bind (loopM (usufructref03_Right_L1 a1) fuel (0, (r2 && r3))) fun x6 =>
  some x6
def usufructref01_Add (a1 : Int) (a2 : Int) : Option (Int × Int) :=
  Option.bind (usufructref01_Is a1) fun r3 =>
  Option.bind (gd ((!r3) = false) (usufructref01_Is a2)) fun r4 =>
  Option.bind (gd (((!r3) || (!r4)) = false) (usufructref01_Is (wr .i64 (a1 + a2)))) fun r5 =>
  if (((!r3) || (!r4)) || (!r5)) = true then
    some (0, 2)
  else
    some ((wr .i64 (a1 + a2)), 0)
def usufructref01_Sum_L1 (a1 : List Int) (s3 : Int × Int) : Option ((Int × Int) ⊕ (Int ⊕ (Int × Int))) :=
  if (decide (s3.1 < (a1.length : Int))) = true then
      Option.bind (six a1 s3.1) fun j5 =>
      Option.bind (usufructref01_Add s3.2 (a1.getD j5 default)) fun r6 =>
      if (!decide (r6.2 = 0)) = true then
        some (.inr (.inr (0, r6.2)))
      else
        some (.inl ((wr .i64 (s3.1 + 1)), r6.1))
    else
      some (.inr (.inl s3.2))
def usufructref01_Sum (a1 : List Int) : Option (Int × Int) :=
  Option.bind (loopM (usufructref01_Sum_L1 a1) fuel (0, 0)) (onS (fun x4 => some (x4, 0))
  (fun r => some r))
def usufructref02_Sum (a1 : Vector Int 16) : Option (Int × Int) :=
  Option.bind (usufructref01_Sum a1.toList) fun r2 =>
  some (r2.1, r2.2)
def usufructref04_Right (a1 : TCounter) : Option (Bool) :=
  Option.bind (usufructref01_Is a1.Init) fun r2 =>
  Option.bind (gd ((!r2) = false) (usufructref01_Is a1.Low)) fun r3 =>
  Option.bind (gd (((!r2) || (!r3)) = false) (usufructref01_Is a1.High)) fun r4 =>
  letM (((((!r2) || (!r3)) || (!r4)) || (decide (a1.Init < a1.Low))) || (decide (a1.High < a1.Init))) fun v5 =>
  Option.bind (gd (v5 = false) (usufructref03_Right a1.Down)) fun r6 =>
  Option.bind (gd ((v5 || (!r6)) = false) (usufructref03_Right a1.Up)) fun r7 =>
  if ((v5 || (!r6)) || (!r7)) = true then
    some false
  else
    Option.bind (usufructref02_Sum a1.Down.Given) fun r8 =>
    Option.bind (usufructref02_Sum a1.Up.Used) fun r9 =>
    Option.bind (usufructref01_Add (wr .i64 (a1.Init - a1.Low)) r9.1) fun r10 =>
    Option.bind (usufructref02_Sum a1.Up.Given) fun r11 =>
    Option.bind (usufructref02_Sum a1.Down.Used) fun r12 =>
    Option.bind (usufructref01_Add (wr .i64 (a1.High - a1.Init)) r12.1) fun r13 =>
    letM ((((decide (r8.2 = 0)) && (decide (r9.2 = 0))) && (decide (r10.2 = 0))) && (decide (r11.2 = 0))) fun v14 =>
    letM (((v14 && (decide (r12.2 = 0))) && (decide (r13.2 = 0))) && (decide (r8.1 = r10.1))) fun v15 =>
    letM (v15 && (decide (r11.1 = r13.1))) fun v16 =>
    some v16
def usufructref06_counts (a1 : Int) : Option (Bool) :=
  Option.bind (gd ((decide (0 ≤ a1)) = true) (usufructref01_Is a1)) fun r2 =>
  letM ((decide (0 ≤ a1)) && r2) fun v3 =>
  some v3
def usufructref06_Right (a1 : THold) : Option (Bool) :=
  letM (((decide (0 ≤ a1.Replica)) && (decide (a1.Replica ≤ 15))) && (decide (0 < a1.Number))) fun v2 =>
  Option.bind (gd (v2 = true) (usufructref06_counts a1.Number)) fun r3 =>
  Option.bind (gd ((v2 && r3) = true) (usufructref06_counts a1.Amount)) fun r4 =>
  Option.bind (gd (((v2 && r3) && r4) = true) (usufructref06_counts a1.Due)) fun r5 =>
  letM (((((v2 && r3) && r4) && r5) && (decide (1 ≤ a1.State))) && (decide (a1.State ≤ 3))) fun v6 =>
  some v6
def usufructref06_Ahead (a1 : THold) (a2 : THold) : Option (Bool) :=
  letM ((decide (a1.Replica < a2.Replica)) || ((decide (a1.Replica = a2.Replica)) && (decide (a1.Number < a2.Number)))) fun v3 =>
  some v3
def usufructref06_Rights_L1 (a1 : List THold) (s3 : Int) : Option (Int ⊕ (Unit ⊕ Bool)) :=
  if (decide (s3 < (a1.length : Int))) = true then
      Option.bind (six a1 s3) fun j5 =>
      letM (a1.getD j5 default) fun v6 =>
      Option.bind (usufructref06_Right v6) fun r7 =>
      Option.bind (gd (((!r7) = false) ∧ (decide (0 < s3)) = true) (six a1 (wr .i64 (s3 - 1)))) fun j8 =>
      Option.bind (gd (((!r7) = false) ∧ (decide (0 < s3)) = true) (six a1 s3)) fun j9 =>
      Option.bind (gd (((!r7) = false) ∧ (decide (0 < s3)) = true) (usufructref06_Ahead (a1.getD j8 default) (a1.getD j9 default))) fun r10 =>
      if ((!r7) || ((decide (0 < s3)) && (!r10))) = true then
        some (.inr (.inr false))
      else
        some (.inl (wr .i64 (s3 + 1)))
    else
      some (.inr (.inl ()))
def usufructref06_Rights (a1 : List THold) : Option (Bool) :=
  Option.bind (loopM (usufructref06_Rights_L1 a1) fuel 0) (onS (fun x4 => letM (decide ((a1.length : Int) ≤ 16)) fun v11 =>
    some v11)
  (fun r => some r))
def usufructref05_Right (a1 : TLock) : Option (Bool) :=
  Option.bind (gd ((decide (0 ≤ a1.Seq)) = true) (usufructref01_Is a1.Seq)) fun r2 =>
  Option.bind (gd ((((decide (0 ≤ a1.Seq)) && r2) && (decide (0 ≤ a1.Ver))) = true) (usufructref01_Is a1.Ver)) fun r3 =>
  letM (((((decide (0 ≤ a1.Seq)) && r2) && (decide (0 ≤ a1.Ver))) && r3) && (decide (0 ≤ a1.Holder))) fun v4 =>
  Option.bind (gd ((v4 && (decide (a1.Holder ≤ 15))) = true) (usufructref01_Is a1.Value)) fun r5 =>
  letM ((v4 && (decide (a1.Holder ≤ 15))) && r5) fun v6 =>
  some v6
def usufructref07_Right (a1 : TField) : Option (Bool) :=
  Option.bind (usufructref07_Name a1.Name) fun r2 =>
  Option.bind (gd (((!r2) || (decide (a1.Epoch < 0))) = false) (usufructref01_Is a1.Epoch)) fun r3 =>
  if (((!r2) || (decide (a1.Epoch < 0))) || (!r3)) = true then
    some false
  else
    if (decide (a1.Kind = 1)) = true then
      Option.bind (usufructref04_Right a1.Counter) fun r4 =>
      Option.bind (gd (r4 = true) (usufructref06_Rights a1.Holds)) fun r5 =>
      letM ((r4 && r5) && (decide (a1.Lock = (⟨0, 0, 0, 0⟩ : TLock)))) fun v6 =>
      some v6
    else
      Option.bind (gd ((decide (a1.Kind = 2)) = true) (usufructref05_Right a1.Lock)) fun r7 =>
      letM (((decide (a1.Kind = 2)) && r7) && (decide ((a1.Holds.length : Int) = 0))) fun v8 =>
      letM (v8 && (decide (a1.Counter = (⟨0, 0, 0, (default : TRights), (default : TRights)⟩ : TCounter)))) fun v9 =>
      some v9
def num_Is (a1 : Int) : Option (Bool) :=
  letM ((decide ((-1099511627776) ≤ a1)) && (decide (a1 ≤ 1099511627776))) fun v2 =>
  some v2
def num_checked_L1 (l3 : List Int) (s5 : Int) : Option (Int ⊕ (Unit ⊕ (Int × Int))) :=
  if (decide (s5 < (l3.length : Int))) = true then
      Option.bind (six l3 s5) fun j7 =>
      Option.bind (num_Is (l3.getD j7 default)) fun r8 =>
      if (!r8) = true then
        some (.inr (.inr (0, 2)))
      else
        some (.inl (wr .i64 (s5 + 1)))
    else
      some (.inr (.inl ()))
def num_checked (a1 : Int) (a2 : List Int) : Option (Int × Int) :=
  Option.bind (app 8 a2 [a1]) fun l3 =>
  Option.bind (loopM (num_checked_L1 l3) fuel 0) (onS (fun x6 => some (a1, 0))
  (fun r => some r))
def num_Sub (a1 : Int) (a2 : Int) : Option (Int × Int) :=
  Option.bind (num_checked (wr .i64 (a1 - a2)) [a1, a2]) fun r3 =>
  some (r3.1, r3.2)
def counter_New (a1 : Int) (a2 : Int) (a3 : Int) : Option (TCounter × Int) :=
  letM (⟨a1, a2, a3, (default : TRights), (default : TRights)⟩ : TCounter) fun v4 =>
  Option.bind (num_Sub a1 a2) fun r5 =>
  Option.bind (num_Sub a3 a1) fun r6 =>
  Option.bind (num_Sub a3 a2) fun r7 =>
  letM (((!decide (r5.2 = 0)) || (!decide (r6.2 = 0))) || (!decide (r7.2 = 0))) fun v8 =>
  if ((v8 || (decide (r5.1 < 0))) || (decide (r6.1 < 0))) = true then
    letM (⟨0, 0, 0, (default : TRights), (default : TRights)⟩ : TCounter) fun v9 =>
    some (v9, 2)
  else
    Option.bind (fix_ 16 0) fun k10 =>
    letM ({ v4 with Down := { v4.Down with Given := (v4.Down.Given.set k10.val r5.1) } }) fun v11 =>
    Option.bind (fix_ 16 0) fun k12 =>
    letM ({ v11 with Up := { v11.Up with Given := (v11.Up.Given.set k12.val r6.1) } }) fun v13 =>
    some (v13, 0)
def field_Name_L1 (a1 : ByteArray) (s3 : Int) : Option (Int ⊕ (Unit ⊕ Bool)) :=
  if (decide (s3 < (a1.size : Int))) = true then
      Option.bind (bix a1 s3) fun n5 =>
      Option.bind (gd ((decide (n5 < 33)) = false) (bix a1 s3)) fun n6 =>
      if ((decide (n5 < 33)) || (decide (126 < n6))) = true then
        some (.inr (.inr false))
      else
        some (.inl (wr .i64 (s3 + 1)))
    else
      some (.inr (.inl ()))
def field_Name (a1 : ByteArray) : Option (Bool) :=
  Option.bind (loopM (field_Name_L1 a1) fuel 0) (onS (fun x4 => letM ((decide (1 ≤ (a1.size : Int))) && (decide ((a1.size : Int) ≤ 8))) fun v7 =>
    some v7)
  (fun r => some r))
def field_done (a1 : TField) (a2 : Int) : Option (TField × Int) :=
  if (!decide (a2 = 0)) = true then
    letM (⟨(default : ByteArray), 0, 0, (default : TCounter), (default : TLock), ([] : List THold)⟩ : TField) fun v3 =>
    some (v3, a2)
  else
    Option.bind (app 40 [] a1.Holds) fun r4 =>
    letM ({ a1 with Holds := r4 }) fun v5 =>
    some (v5, 0)
def field_Counter (a1 : ByteArray) (a2 : Int) (a3 : Int) (a4 : Int) : Option (TField × Int) :=
  Option.bind (counter_New a2 a3 a4) fun r5 =>
  Option.bind (field_Name a1) fun r6 =>
  if (!r6) = true then
    letM (⟨a1, 1, 0, r5.1, (default : TLock), ([] : List THold)⟩ : TField) fun v7 =>
    Option.bind (field_done v7 1) fun r8 =>
    some (r8.1, r8.2)
  else
    letM (⟨a1, 1, 0, r5.1, (default : TLock), ([] : List THold)⟩ : TField) fun v9 =>
    Option.bind (field_done v9 r5.2) fun r10 =>
    some (r10.1, r10.2)
def rights_is (a1 : Int) : Option (Bool) :=
  letM ((decide (0 ≤ a1)) && (decide (a1 < 16))) fun v2 =>
  some v2
def rights_less_L1 (a1 : Vector Int 16) (s3 : Int × (List Int)) : Option ((Int × (List Int)) ⊕ ((List Int))) :=
  if (decide (s3.1 < 16)) = true then
      Option.bind (fix_ 16 s3.1) fun k5 =>
      Option.bind (app 8 s3.2 [(wr .i64 (0 - (a1.get k5)))]) fun l6 =>
      some (.inl ((wr .i64 (s3.1 + 1)), l6))
    else
      some (.inr s3.2)
def rights_less (a1 : Vector Int 16) : Option ((List Int)) :=
  Option.bind (loopM (rights_less_L1 a1) fuel (0, ([] : List Int))) fun x4 =>
  some x4
def num_Add (a1 : Int) (a2 : Int) : Option (Int × Int) :=
  Option.bind (num_checked (wr .i64 (a1 + a2)) [a1, a2]) fun r3 =>
  some (r3.1, r3.2)
def num_Must (a1 : Int) (a2 : Int) : Option (Int) :=
  if (!decide (a2 = 0)) = true then
    none
  else
    some a1
def num_Sum_1_L1 (a1 : List Int) (s3 : Int × Int) : Option ((Int × Int) ⊕ Int) :=
  if (decide (s3.1 < (a1.length : Int))) = true then
      Option.bind (six a1 s3.1) fun j5 =>
      Option.bind (num_Add s3.2 (a1.getD j5 default)) fun r6 =>
      Option.bind (num_Must r6.1 r6.2) fun r7 =>
      some (.inl ((wr .i64 (s3.1 + 1)), r7))
    else
      some (.inr s3.2)
def num_Sum_1 (a1 : List Int) : Option (Int) :=
  Option.bind (loopM (num_Sum_1_L1 a1) fuel (0, 0)) fun x4 =>
  some x4
def num_Sum_P_L1 (a1 : List Int) (s3 : Int × Int) : Option ((Int × Int) ⊕ Int) :=
  if (decide (s3.1 < (a1.length : Int))) = true then
      Option.bind (six a1 s3.1) fun j5 =>
      Option.bind (num_Add s3.2 (a1.getD j5 default)) fun r6 =>
      if (decide (r6.2 = 0)) = true then some (.inl ((wr .i64 (s3.1 + 1)), r6.1)) else some (.inr r6.2)
    else
      none
def num_Sum_P (a1 : List Int) : Option Int := loopM (num_Sum_P_L1 a1) fuel (0, 0)
def num_Sum (a1 : List Int) : Option (Int × Int) :=
  Option.bind (tryM (num_Sum_1 a1) (num_Sum_P a1)) fun r2 =>
  some (r2.1, r2.2)
def rights_Free_L1 (a1 : TRights) (a2 : Int) (s6 : Int × (List Int)) : Option ((Int × (List Int)) ⊕ ((List Int))) :=
  if (decide (s6.1 < 16)) = true then
        Option.bind (fix_ 16 s6.1) fun k8 =>
        letM (a1.Moved.get k8) fun v9 =>
        Option.bind (fix_ 16 a2) fun k10 =>
        Option.bind (app 8 s6.2 [(v9.get k10)]) fun l11 =>
        some (.inl ((wr .i64 (s6.1 + 1)), l11))
      else
        some (.inr s6.2)
def rights_Free (a1 : TRights) (a2 : Int) : Option (Int × Int) :=
  Option.bind (rights_is a2) fun r3 =>
  if (!r3) = true then
    some (0, 1)
  else
    Option.bind (fix_ 16 a2) fun k4 =>
    Option.bind (loopM (rights_Free_L1 a1 a2) fuel (0, [(a1.Given.get k4)])) fun x7 =>
    Option.bind (fix_ 16 a2) fun k12 =>
      Option.bind (app 8 x7 [(wr .i64 (0 - (a1.Used.get k12)))]) fun l13 =>
      Option.bind (fix_ 16 a2) fun k14 =>
      letM (a1.Moved.get k14) fun v15 =>
      Option.bind (rights_less v15) fun r16 =>
      Option.bind (app 8 l13 r16) fun l17 =>
      Option.bind (num_Sum l17) fun r18 =>
      some (r18.1, r18.2)
def counter_Room (a1 : TCounter) (a2 : Int) : Option (Int × Int) :=
  Option.bind (rights_Free a1.Down a2) fun r3 =>
  Option.bind (rights_Free a1.Up a2) fun r4 =>
  some (r3.1, r4.1)
def hold_Sum_L1 (a1 : List THold) (a2 : Int) (s4 : Int × Int) : Option ((Int × Int) ⊕ Int) :=
  if (decide (s4.1 < (a1.length : Int))) = true then
      Option.bind (six a1 s4.1) fun j6 =>
      letM (a1.getD j6 default) fun v7 =>
      if ((decide (v7.Replica = a2)) && (decide (v7.State = 1))) = true then
        letM (min (wr .i64 (s4.2 + v7.Amount)) 1099511627776) fun v8 =>
        some (.inl ((wr .i64 (s4.1 + 1)), v8))
      else
        some (.inl ((wr .i64 (s4.1 + 1)), s4.2))
    else
      some (.inr s4.2)
def hold_Sum (a1 : List THold) (a2 : Int) : Option (Int) :=
  Option.bind (loopM (hold_Sum_L1 a1 a2) fuel (0, 0)) fun x5 =>
  some x5
def field_Loose (a1 : TField) (a2 : Int) : Option (Int × Int) :=
  if (!decide (a1.Kind = 1)) = true then
    some (0, 0)
  else
    Option.bind (counter_Room a1.Counter a2) fun r3 =>
    Option.bind (hold_Sum a1.Holds a2) fun r4 =>
    some ((wr .i64 (r3.1 - r4)), r3.2)
def field_lacks (a1 : TField) (a2 : Int) (a3 : Int) : Option (Int) :=
  Option.bind (field_Loose a1 a2) fun r4 =>
  if (!decide (a1.Kind = 1)) = true then
    some 17
  else
    if (decide (r4.1 < a3)) = true then
      some 8
    else
      some 0
def hold_count (a1 : Int) : Option (Bool) :=
  Option.bind (gd ((decide (0 ≤ a1)) = true) (num_Is a1)) fun r2 =>
  letM ((decide (0 ≤ a1)) && r2) fun v3 =>
  some v3
def hold_Right (a1 : THold) : Option (Bool) :=
  letM (((decide (0 ≤ a1.Replica)) && (decide (a1.Replica < 16))) && (decide (1 ≤ a1.Number))) fun v2 =>
  Option.bind (gd (v2 = true) (num_Is a1.Number)) fun r3 =>
  Option.bind (gd ((v2 && r3) = true) (hold_count a1.Amount)) fun r4 =>
  Option.bind (gd (((v2 && r3) && r4) = true) (hold_count a1.Due)) fun r5 =>
  letM (((((v2 && r3) && r4) && r5) && (decide (1 ≤ a1.State))) && (decide (a1.State ≤ 3))) fun v6 =>
  some v6
def hold_compare_L1 (a1 : THold) (a2 : THold) (s4 : Int) : Option (Int ⊕ (Unit ⊕ Int)) :=
  if (decide (s4 < 2)) = true then
      Option.bind (fix_ 2 s4) fun k6 =>
      letM ((#v[(#v[a1.Replica, a2.Replica] : Vector Int 2), (#v[a1.Number, a2.Number] : Vector Int 2)] : Vector (Vector Int 2) 2).get k6) fun v7 =>
      Option.bind (fix_ 2 0) fun k8 =>
      Option.bind (fix_ 2 1) fun k9 =>
      if (!decide ((v7.get k8) = (v7.get k9))) = true then
        Option.bind (fix_ 2 0) fun k10 =>
        Option.bind (fix_ 2 1) fun k11 =>
        if (decide ((v7.get k10) < (v7.get k11))) = true then
          some (.inr (.inr (-1)))
        else
          some (.inr (.inr 1))
      else
        some (.inl (wr .i64 (s4 + 1)))
    else
      some (.inr (.inl ()))
def hold_compare (a1 : THold) (a2 : THold) : Option (Int) :=
  Option.bind (loopM (hold_compare_L1 a1 a2) fuel 0) (onS (fun x5 => some 0)
  (fun r => some r))
def holdCmp (a b : THold) : Int := if a.Replica = b.Replica then (if a.Number = b.Number then 0 else if a.Number < b.Number then -1 else 1) else if a.Replica < b.Replica then -1 else 1
theorem hold_compare_eq (a b : THold) : hold_compare a b = some (holdCmp a b) := by
  have e0 : fix_ 2 0 = some (0 : Fin 2) := rfl
  have e1 : fix_ 2 1 = some (1 : Fin 2) := rfl
  have w0 : wr .i64 1 = 1 := by decide
  have w1 : wr .i64 2 = 2 := by decide
  have v0 : ∀ x y : Int, (#v[x, y] : Vector Int 2).get 0 = x := fun _ _ => rfl
  have v1 : ∀ x y : Int, (#v[x, y] : Vector Int 2).get 1 = y := fun _ _ => rfl
  have u0 : ∀ x y : Vector Int 2, (#v[x, y] : Vector (Vector Int 2) 2).get 0 = x := fun _ _ => rfl
  have u1 : ∀ x y : Vector Int 2, (#v[x, y] : Vector (Vector Int 2) 2).get 1 = y := fun _ _ => rfl
  have h0 : hold_compare_L1 a b 0 = if a.Replica = b.Replica then some (.inl 1) else if a.Replica < b.Replica then some (.inr (.inr (-1))) else some (.inr (.inr 1)) := by
    unfold hold_compare_L1
    simp [e0, e1, letM, w0, v0, v1, u0]
  have h1 : hold_compare_L1 a b 1 = if a.Number = b.Number then some (.inl 2) else if a.Number < b.Number then some (.inr (.inr (-1))) else some (.inr (.inr 1)) := by
    unfold hold_compare_L1
    simp [e0, e1, letM, w1, v0, v1, u1]
  have h2 : hold_compare_L1 a b 2 = some (.inr (.inl ())) := by unfold hold_compare_L1; simp
  unfold hold_compare holdCmp
  have hf : fuel = 1180591620717411303421 + 3 := rfl
  rw [hf]
  by_cases c0 : a.Replica = b.Replica
  · by_cases c1 : a.Number = b.Number
    · simp [loopM, h0, h1, h2, c0, c1, onS]
    · by_cases c2 : a.Number < b.Number <;> simp [loopM, h0, h1, c0, c1, c2, onS]
  · by_cases c2 : a.Replica < b.Replica <;> simp [loopM, h0, c0, c2, onS]
theorem holdCmp_lt (a b : THold) : Go.Proofs.ltOf holdCmp a b = decide (a.Replica < b.Replica ∨ (a.Replica = b.Replica ∧ a.Number < b.Number)) := by
  unfold Go.Proofs.ltOf holdCmp
  by_cases h : a.Replica = b.Replica
  · by_cases h1 : a.Number = b.Number
    · simp [h, h1]
    · by_cases h2 : a.Number < b.Number <;> simp [h, h1, h2]
  · by_cases h2 : a.Replica < b.Replica <;> simp [h, h2]
theorem holdCmp_swo : Go.Sort.SWO (Go.Proofs.ltOf holdCmp) := by
  refine ⟨fun x => ?_, fun x y z h1 h2 => ?_, fun x y z h1 h2 => ?_⟩ <;> simp only [holdCmp_lt, decide_eq_true_eq, decide_eq_false_iff_not] at * <;> omega

def hold_Rights_L1 (a1 : List THold) (s3 : Int) : Option (Int ⊕ (Unit ⊕ Bool)) :=
  if (decide (s3 < (a1.length : Int))) = true then
      Option.bind (six a1 s3) fun j5 =>
      letM (a1.getD j5 default) fun v6 =>
      Option.bind (hold_Right v6) fun r7 =>
      Option.bind (gd (((!r7) = false) ∧ (decide (0 < s3)) = true) (six a1 (wr .i64 (s3 - 1)))) fun j8 =>
      Option.bind (gd (((!r7) = false) ∧ (decide (0 < s3)) = true) (hold_compare (a1.getD j8 default) v6)) fun r9 =>
      if ((!r7) || ((decide (0 < s3)) && (decide (0 ≤ r9)))) = true then
        some (.inr (.inr false))
      else
        some (.inl (wr .i64 (s3 + 1)))
    else
      some (.inr (.inl ()))
def hold_Rights (a1 : List THold) : Option (Bool) :=
  Option.bind (loopM (hold_Rights_L1 a1) fuel 0) (onS (fun x4 => letM (decide ((a1.length : Int) ≤ 16)) fun v10 =>
    some v10)
  (fun r => some r))
def hold_Reserve_L1 (a1 : List THold) (a2 : Int) (s6 : Int × Int) : Option ((Int × Int) ⊕ Int) :=
  if (decide (s6.1 < (a1.length : Int))) = true then
      Option.bind (six a1 s6.1) fun j8 =>
      letM (a1.getD j8 default) fun v9 =>
      if (decide (v9.Replica = a2)) = true then
        letM (max s6.2 (wr .i64 (v9.Number + 1))) fun v10 =>
        some (.inl ((wr .i64 (s6.1 + 1)), v10))
      else
        some (.inl ((wr .i64 (s6.1 + 1)), s6.2))
    else
      some (.inr s6.2)
def hold_Reserve (a1 : List THold) (a2 : Int) (a3 : Int) (a4 : Int) : Option ((List THold) × Int × Int) :=
  Option.bind (loopM (hold_Reserve_L1 a1 a2) fuel (0, 1)) fun x7 =>
  letM (⟨a2, x7, a3, a4, 1⟩ : THold) fun v11 =>
    Option.bind (hold_Rights a1) fun r12 =>
    Option.bind (gd ((!r12) = false) (hold_Right v11)) fun r13 =>
    if ((!r12) || (!r13)) = true then
      some (([] : List THold), 0, 1)
    else
      letM (decide ((a1.length : Int) = 16)) fun v14 =>
      if v14 = true then
        some (([] : List THold), 0, 7)
      else
        Option.bind (app 40 [] a1) fun l15 =>
        Option.bind (app 40 l15 [v11]) fun l16 =>
        Option.bind (sortM holdCmp l16) fun l17 =>
        some (l17, x7, 0)
def field_Reserve (a1 : TField) (a2 : Int) (a3 : Int) (a4 : Int) : Option (TField × Int × Int) :=
  Option.bind (field_lacks a1 a2 a3) fun r5 =>
  if (!decide (r5 = 0)) = true then
    letM (⟨(default : ByteArray), 0, 0, (default : TCounter), (default : TLock), ([] : List THold)⟩ : TField) fun v6 =>
    some (v6, 0, r5)
  else
    Option.bind (hold_Reserve a1.Holds a2 a3 a4) fun r7 =>
    if (!decide (r7.2.2 = 0)) = true then
      letM (⟨(default : ByteArray), 0, 0, (default : TCounter), (default : TLock), ([] : List THold)⟩ : TField) fun v8 =>
      some (v8, 0, r7.2.2)
    else
      letM ({ a1 with Holds := r7.1 }) fun v9 =>
      some (v9, r7.2.1, 0)
def vec_Right_L1 (a1 : Vector Int 16) (s3 : Int) : Option (Int ⊕ (Unit ⊕ Bool)) :=
  if (decide (s3 < 16)) = true then
      Option.bind (fix_ 16 s3) fun k5 =>
      Option.bind (gd ((decide ((a1.get k5) < 0)) = false) (num_Is (a1.get k5))) fun r6 =>
      if ((decide ((a1.get k5) < 0)) || (!r6)) = true then
        some (.inr (.inr false))
      else
        some (.inl (wr .i64 (s3 + 1)))
    else
      some (.inr (.inl ()))
def vec_Right (a1 : Vector Int 16) : Option (Bool) :=
  Option.bind (loopM (vec_Right_L1 a1) fuel 0) (onS (fun x4 => some true)
  (fun r => some r))
def rights_Right_L1 (a1 : TRights) (s5 : Int) : Option (Int ⊕ (Unit ⊕ Bool)) :=
  if (decide (s5 < 16)) = true then
        Option.bind (fix_ 16 s5) fun k7 =>
        letM (a1.Moved.get k7) fun v8 =>
        Option.bind (vec_Right v8) fun r9 =>
        Option.bind (gd ((!r9) = false) (fix_ 16 s5)) fun k10 =>
        if ((!r9) || (!decide ((v8.get k10) = 0))) = true then
          some (.inr (.inr false))
        else
          some (.inl (wr .i64 (s5 + 1)))
      else
        some (.inr (.inl ()))
def rights_Right (a1 : TRights) : Option (Bool) :=
  Option.bind (vec_Right a1.Given) fun r2 =>
  Option.bind (gd ((!r2) = false) (vec_Right a1.Used)) fun r3 =>
  if ((!r2) || (!r3)) = true then
    some false
  else
    Option.bind (loopM (rights_Right_L1 a1) fuel 0) (onS (fun x6 => some true)
    (fun r => some r))
def vec_Sum (a1 : Vector Int 16) : Option (Int × Int) :=
  Option.bind (num_Sum a1.toList) fun r2 =>
  some (r2.1, r2.2)
def counter_given (a1 : TRights) (a2 : TRights) (a3 : Int) : Option (Bool) :=
  Option.bind (vec_Sum a1.Given) fun r4 =>
  Option.bind (vec_Sum a2.Used) fun r5 =>
  Option.bind (num_Add a3 r5.1) fun r6 =>
  letM ((((decide (r4.2 = 0)) && (decide (r5.2 = 0))) && (decide (r6.2 = 0))) && (decide (r4.1 = r6.1))) fun v7 =>
  some v7
def counter_Right (a1 : TCounter) : Option (Bool) :=
  Option.bind (num_Is a1.Init) fun r2 =>
  Option.bind (gd ((!r2) = false) (num_Is a1.Low)) fun r3 =>
  Option.bind (gd (((!r2) || (!r3)) = false) (num_Is a1.High)) fun r4 =>
  letM (((((!r2) || (!r3)) || (!r4)) || (decide (a1.Init < a1.Low))) || (decide (a1.High < a1.Init))) fun v5 =>
  if v5 = true then
    some false
  else
    Option.bind (rights_Right a1.Down) fun r6 =>
    Option.bind (gd (r6 = true) (rights_Right a1.Up)) fun r7 =>
    Option.bind (gd ((r6 && r7) = true) (counter_given a1.Down a1.Up (wr .i64 (a1.Init - a1.Low)))) fun r8 =>
    Option.bind (gd (((r6 && r7) && r8) = true) (counter_given a1.Up a1.Down (wr .i64 (a1.High - a1.Init)))) fun r9 =>
    letM (((r6 && r7) && r8) && r9) fun v10 =>
    some v10
def lock_Right_1 (a1 : Int) : Option (Bool) :=
  Option.bind (gd ((decide (0 ≤ a1)) = true) (num_Is a1)) fun r2 =>
  letM ((decide (0 ≤ a1)) && r2) fun v3 =>
  some v3
def lock_is (a1 : Int) : Option (Bool) :=
  letM ((decide (0 ≤ a1)) && (decide (a1 < 16))) fun v2 =>
  some v2
def lock_Right (a1 : TLock) : Option (Bool) :=
  Option.bind (lock_Right_1 a1.Seq) fun r2 =>
  Option.bind (gd (r2 = true) (lock_Right_1 a1.Ver)) fun r3 =>
  Option.bind (gd ((r2 && r3) = true) (lock_is a1.Holder)) fun r4 =>
  Option.bind (gd (((r2 && r3) && r4) = true) (num_Is a1.Value)) fun r5 =>
  letM (((r2 && r3) && r4) && r5) fun v6 =>
  some v6
def field_Right (a1 : TField) : Option (Bool) :=
  Option.bind (field_Name a1.Name) fun r2 =>
  Option.bind (gd (((!r2) || (decide (a1.Epoch < 0))) = false) (num_Is a1.Epoch)) fun r3 =>
  if (((!r2) || (decide (a1.Epoch < 0))) || (!r3)) = true then
    some false
  else
    if (decide (a1.Kind = 1)) = true then
      Option.bind (counter_Right a1.Counter) fun r4 =>
      Option.bind (gd (r4 = true) (hold_Rights a1.Holds)) fun r5 =>
      letM ((r4 && r5) && (decide (a1.Lock = (⟨0, 0, 0, 0⟩ : TLock)))) fun v6 =>
      some v6
    else
      if (decide (a1.Kind = 2)) = true then
        Option.bind (lock_Right a1.Lock) fun r7 =>
        letM ((r7 && (decide ((a1.Holds.length : Int) = 0))) && (decide (a1.Counter = (⟨0, 0, 0, (default : TRights), (default : TRights)⟩ : TCounter)))) fun v8 =>
        some v8
      else
        some false
def wire_is (a1 : Int) : Option (Bool) :=
  letM ((decide (1 ≤ a1)) && (decide (a1 ≤ 3))) fun v2 =>
  some v2
def wire_Down (a1 : Int) (a2 : TField) : Option (TField × Twire_Residue × Int) :=
  Option.bind (field_Right a2) fun r3 =>
  if (!r3) = true then
    letM (⟨(default : ByteArray), 0, 0, (default : TCounter), (default : TLock), ([] : List THold)⟩ : TField) fun v4 =>
    letM (⟨0, ([] : List THold)⟩ : Twire_Residue) fun v5 =>
    some (v4, v5, 1)
  else
    Option.bind (wire_is a1) fun r6 =>
    if (!r6) = true then
      letM (⟨(default : ByteArray), 0, 0, (default : TCounter), (default : TLock), ([] : List THold)⟩ : TField) fun v7 =>
      letM (⟨0, ([] : List THold)⟩ : Twire_Residue) fun v8 =>
      some (v7, v8, 18)
    else
      Option.bind (app 40 [] a2.Holds) fun r9 =>
      letM ({ a2 with Holds := r9 }) fun v10 =>
      if (decide (a1 < 3)) = true then
        letM ({ v10 with Epoch := 0 }) fun v11 =>
        if (decide (a1 = 1)) = true then
          letM ({ v11 with Holds := ([] : List THold) }) fun v12 =>
          letM (⟨v10.Epoch, v11.Holds⟩ : Twire_Residue) fun v13 =>
          some (v12, v13, 0)
        else
          letM (⟨v10.Epoch, ([] : List THold)⟩ : Twire_Residue) fun v14 =>
          some (v11, v14, 0)
      else
        if (decide (a1 = 1)) = true then
          letM ({ v10 with Holds := ([] : List THold) }) fun v15 =>
          letM (⟨0, v10.Holds⟩ : Twire_Residue) fun v16 =>
          some (v15, v16, 0)
        else
          letM (⟨0, ([] : List THold)⟩ : Twire_Residue) fun v17 =>
          some (v10, v17, 0)
def slices_Grow_Hold_own (a1 : Int) : Option ((List THold)) :=
  if (decide (a1 < 0)) = true then
    none
  else
    letM (wr .i64 (a1 - (wr .i64 (0 - 0)))) fun v2 =>
    if (decide (0 < v2)) = true then
      Option.bind (mkM 40 v2) fun u3 =>
      some ([] : List THold)
    else
      some ([] : List THold)
def slices_Concat_Hold_L1 (a1 : List (List THold)) (s3 : Int × Int) : Option ((Int × Int) ⊕ Int) :=
  if (decide (s3.1 < (a1.length : Int))) = true then
      Option.bind (six a1 s3.1) fun j5 =>
      letM (wr .i64 (s3.2 + ((a1.getD j5 default).length : Int))) fun v6 =>
      if (decide (v6 < 0)) = true then
        none
      else
        some (.inl ((wr .i64 (s3.1 + 1)), v6))
    else
      some (.inr s3.2)
def slices_Concat_Hold_L2 (a1 : List (List THold)) (s9 : Int × (List THold)) : Option ((Int × (List THold)) ⊕ ((List THold))) :=
  if (decide (s9.1 < (a1.length : Int))) = true then
        Option.bind (six a1 s9.1) fun j11 =>
        Option.bind (app 40 s9.2 (a1.getD j11 default)) fun l12 =>
        some (.inl ((wr .i64 (s9.1 + 1)), l12))
      else
        some (.inr s9.2)
def slices_Concat_Hold (a1 : List (List THold)) : Option ((List THold)) :=
  Option.bind (loopM (slices_Concat_Hold_L1 a1) fuel (0, 0)) fun x4 =>
  Option.bind (slices_Grow_Hold_own x4) fun r7 =>
    Option.bind (loopM (slices_Concat_Hold_L2 a1) fuel (0, r7)) fun x10 =>
    some x10
def wire_Up (a1 : TField) (a2 : Twire_Residue) : Option (TField × Int) :=
  Option.bind (field_Right a1) fun r3 =>
  letM (((!r3) || ((!decide (a2.Epoch = 0)) && (!decide (a1.Epoch = 0)))) || ((decide (0 < (a2.Holds.length : Int))) && (decide (0 < (a1.Holds.length : Int))))) fun v4 =>
  if v4 = true then
    letM (⟨(default : ByteArray), 0, 0, (default : TCounter), (default : TLock), ([] : List THold)⟩ : TField) fun v5 =>
    some (v5, 1)
  else
    Option.bind (slices_Concat_Hold [a1.Holds, a2.Holds]) fun r6 =>
    letM ({ a1 with Holds := r6 }) fun v7 =>
    letM ({ v7 with Epoch := (wr .i64 (v7.Epoch + a2.Epoch)) }) fun v8 =>
    Option.bind (field_Right v8) fun r9 =>
    if (!r9) = true then
      letM (⟨(default : ByteArray), 0, 0, (default : TCounter), (default : TLock), ([] : List THold)⟩ : TField) fun v10 =>
      some (v10, 4)
    else
      some (v8, 0)
def wire_says  : Option (Unit) :=
  some ()
def wire_says_1 (a1 : TField) : Option (Bool) :=
  letM ((decide (a1.Epoch = 0)) && (decide ((a1.Holds.length : Int) = 0))) fun v2 =>
  some v2
def wire_says_2 (a1 : TField) : Option (Bool) :=
  some (decide (a1.Epoch = 0))
def wire_says_3 (a1 : TField) : Option (Bool) :=
  some true
def wire_Says (a1 : Int) (a2 : TField) : Option (Bool) :=
  Option.bind (field_Right a2) fun r3 =>
  Option.bind (gd (r3 = true) (wire_is a1)) fun r4 =>
  if (r3 && r4) = true then
    Option.bind (wire_says) fun u5 =>
    Option.bind (i64M a1) fun u6 =>
    if (decide (a1 = 1)) = true then
      Option.bind (wire_says_1 a2) fun r7 =>
      some r7
    else
      if (decide (a1 = 2)) = true then
        Option.bind (wire_says_2 a2) fun r8 =>
        some r8
      else
        if (decide (a1 = 3)) = true then
          Option.bind (wire_says_3 a2) fun r9 =>
          some r9
        else
          none
  else
    some false
def slices_Equal_Hold_L1 (a1 : List THold) (a2 : List THold) (s4 : Int) : Option (Int ⊕ (Unit ⊕ Bool)) :=
  if (decide (s4 < (a1.length : Int))) = true then
        Option.bind (six a1 s4) fun j6 =>
        letM (a1.getD j6 default) fun v7 =>
        Option.bind (six a2 s4) fun j8 =>
        letM (a2.getD j8 default) fun v9 =>
        if (!decide (v7 = v9)) = true then
          some (.inr (.inr false))
        else
          some (.inl (wr .i64 (s4 + 1)))
      else
        some (.inr (.inl ()))
def slices_Equal_Hold (a1 : List THold) (a2 : List THold) : Option (Bool) :=
  if (!decide ((a1.length : Int) = (a2.length : Int))) = true then
    some false
  else
    Option.bind (loopM (slices_Equal_Hold_L1 a1 a2) fuel 0) (onS (fun x5 => some true)
    (fun r => some r))
def field_Same (a1 : TField) (a2 : TField) : Option (Bool) :=
  letM (((decide (a1.Name = a2.Name)) && (decide (a1.Kind = a2.Kind))) && (decide (a1.Epoch = a2.Epoch))) fun v3 =>
  letM ((v3 && (decide (a1.Counter = a2.Counter))) && (decide (a1.Lock = a2.Lock))) fun v4 =>
  Option.bind (gd (v4 = true) (slices_Equal_Hold a1.Holds a2.Holds)) fun r5 =>
  some (v4 && r5)
def usufructlaw10_awake  : Option (Bool) :=
  Option.bind (field_Counter (⟨#[97]⟩ : ByteArray) 5 0 10) fun r1 =>
  Option.bind (field_Reserve r1.1 0 3 9) fun r2 =>
  Option.bind (wire_Down 1 r2.1) fun r3 =>
  Option.bind (wire_Up r3.1 r3.2.1) fun r4 =>
  Option.bind (gd ((decide (r2.2.2 = 0)) = true) (wire_Says 1 r2.1)) fun r5 =>
  Option.bind (gd (((decide (r2.2.2 = 0)) && (!r5)) = true) (wire_Says 2 r2.1)) fun r6 =>
  letM (((((decide (r2.2.2 = 0)) && (!r5)) && r6) && (decide (r3.2.2 = 0))) && (decide ((r3.2.1.Holds.length : Int) = 1))) fun v7 =>
  letM ((v7 && (decide ((r3.1.Holds.length : Int) = 0))) && (decide (r4.2 = 0))) fun v8 =>
  Option.bind (gd (v8 = true) (field_Same r4.1 r2.1)) fun r9 =>
  some (v8 && r9)
def usufructref02_Join_L1 (a1 : Vector Int 16) (a2 : Vector Int 16) (s4 : Int × (Vector Int 16)) : Option ((Int × (Vector Int 16)) ⊕ ((Vector Int 16))) :=
  if (decide (s4.1 < 16)) = true then
      Option.bind (fix_ 16 s4.1) fun k6 =>
      Option.bind (fix_ 16 s4.1) fun k7 =>
      letM (s4.2.set k7.val (a1.get k6)) fun v8 =>
      Option.bind (fix_ 16 s4.1) fun k9 =>
      Option.bind (fix_ 16 s4.1) fun k10 =>
      if (decide ((a1.get k10) < (a2.get k9))) = true then
        Option.bind (fix_ 16 s4.1) fun k11 =>
        Option.bind (fix_ 16 s4.1) fun k12 =>
        letM (v8.set k12.val (a2.get k11)) fun v13 =>
        some (.inl ((wr .i64 (s4.1 + 1)), v13))
      else
        some (.inl ((wr .i64 (s4.1 + 1)), v8))
    else
      some (.inr s4.2)
def usufructref02_Join (a1 : Vector Int 16) (a2 : Vector Int 16) : Option ((Vector Int 16)) :=
  Option.bind (loopM (usufructref02_Join_L1 a1 a2) fuel (0, (default : Vector Int 16))) fun x5 =>
  some x5
def usufructref03_Join_L1 (a1 : TRights) (a2 : TRights) (s7 : Int × TRights) : Option ((Int × TRights) ⊕ TRights) :=
  if (decide (s7.1 < 16)) = true then
      Option.bind (fix_ 16 s7.1) fun k9 =>
      letM (a1.Moved.get k9) fun v10 =>
      Option.bind (fix_ 16 s7.1) fun k11 =>
      letM (a2.Moved.get k11) fun v12 =>
      Option.bind (usufructref02_Join v10 v12) fun r13 =>
      Option.bind (fix_ 16 s7.1) fun k14 =>
      letM ({ s7.2 with Moved := (s7.2.Moved.set k14.val r13) }) fun v15 =>
      some (.inl ((wr .i64 (s7.1 + 1)), v15))
    else
      some (.inr s7.2)
def usufructref03_Join (a1 : TRights) (a2 : TRights) : Option (TRights) :=
  Option.bind (usufructref02_Join a1.Given a2.Given) fun r3 =>
  Option.bind (usufructref02_Join a1.Used a2.Used) fun r4 =>
  letM (⟨r3, r4, (default : Vector (Vector Int 16) 16)⟩ : TRights) fun v5 =>
  Option.bind (loopM (usufructref03_Join_L1 a1 a2) fuel (0, v5)) fun x8 =>
  some x8
def usufructref04_Join (a1 : TCounter) (a2 : TCounter) : Option (TCounter × Int) :=
  letM (((!decide (a1.Init = a2.Init)) || (!decide (a1.Low = a2.Low))) || (!decide (a1.High = a2.High))) fun v3 =>
  if v3 = true then
    letM (⟨0, 0, 0, (default : TRights), (default : TRights)⟩ : TCounter) fun v4 =>
    some (v4, 1)
  else
    Option.bind (usufructref03_Join a1.Down a2.Down) fun r5 =>
    letM ({ a1 with Down := r5 }) fun v6 =>
    Option.bind (usufructref03_Join v6.Up a2.Up) fun r7 =>
    letM ({ v6 with Up := r7 }) fun v8 =>
    some (v8, 0)
def usufructref06_Put_own_L1 (a1 : List THold) (a2 : THold) (s4 : Int) : Option (Int ⊕ Int) :=
  Option.bind (gd ((decide (s4 < (a1.length : Int))) = true) (six a1 s4)) fun j6 =>
    Option.bind (gd ((decide (s4 < (a1.length : Int))) = true) (usufructref06_Ahead (a1.getD j6 default) a2)) fun r7 =>
    if ((decide (s4 < (a1.length : Int))) && r7) = true then
      some (.inl (wr .i64 (s4 + 1)))
    else
      some (.inr s4)
def usufructref06_Put_own (a1 : List THold) (a2 : THold) : Option ((List THold)) :=
  Option.bind (loopM (usufructref06_Put_own_L1 a1 a2) fuel 0) fun x5 =>
  Option.bind (ssl a1 0 x5) fun l8 =>
    Option.bind (app 40 ([] : List THold) l8) fun l9 =>
    Option.bind (app 40 l9 [a2]) fun l10 =>
    Option.bind (ssl a1 x5 (a1.length : Int)) fun l11 =>
    Option.bind (app 40 l10 l11) fun l12 =>
    some l12
def usufructref06_Join_L2 (a2 : List THold) (s7 : Int × (List THold)) (s10 : Int × Int) : Option ((Int × Int) ⊕ (Bool × Int × Int × Int)) :=
  if (decide (s10.1 < ((s7.2.length : Nat) : Int))) = true then
            Option.bind (six s7.2 s10.1) fun j12 =>
            Option.bind (six a2 s7.1) fun j13 =>
            Option.bind (gd ((decide ((s7.2.getD j12 default).Replica = (a2.getD j13 default).Replica)) = true) (six s7.2 s10.1)) fun j14 =>
            Option.bind (gd ((decide ((s7.2.getD j12 default).Replica = (a2.getD j13 default).Replica)) = true) (six a2 s7.1)) fun j15 =>
            letM ((decide ((s7.2.getD j12 default).Replica = (a2.getD j13 default).Replica)) && (decide ((s7.2.getD j14 default).Number = (a2.getD j15 default).Number))) fun v16 =>
            if v16 = true then
              some (.inl ((wr .i64 (s10.1 + 1)), s10.1))
            else
              some (.inl ((wr .i64 (s10.1 + 1)), s10.2))
          else
            some (.inr ((decide (s10.1 < ((s7.2.length : Nat) : Int))), s10.1, s10.1, s10.2))
def usufructref06_Join_L1 (a2 : List THold) (s7 : Int × (List THold)) : Option ((Int × (List THold)) ⊕ (((List THold)) ⊕ ((List THold) × Int))) :=
  if (decide (s7.1 < (a2.length : Int))) = true then
        Option.bind (loopM (usufructref06_Join_L2 a2 s7) fuel (0, (-1))) fun x11 =>
        if (decide (x11.2.2.2 < 0)) = true then
            Option.bind (six a2 s7.1) fun j17 =>
            letM (a2.getD j17 default) fun v18 =>
            Option.bind (usufructref06_Put_own s7.2 v18) fun r19 =>
            some (.inl ((wr .i64 (s7.1 + 1)), r19))
          else
            Option.bind (six s7.2 x11.2.2.2) fun j20 =>
            Option.bind (six a2 s7.1) fun j21 =>
            Option.bind (gd ((!decide ((s7.2.getD j20 default).Amount = (a2.getD j21 default).Amount)) = false) (six s7.2 x11.2.2.2)) fun j22 =>
            Option.bind (gd ((!decide ((s7.2.getD j20 default).Amount = (a2.getD j21 default).Amount)) = false) (six a2 s7.1)) fun j23 =>
            letM ((!decide ((s7.2.getD j20 default).Amount = (a2.getD j21 default).Amount)) || (!decide ((s7.2.getD j22 default).Due = (a2.getD j23 default).Due))) fun v24 =>
            if v24 = true then
              some (.inr (.inr (([] : List THold), 1)))
            else
              Option.bind (six s7.2 x11.2.2.2) fun j25 =>
              Option.bind (six a2 s7.1) fun j26 =>
              Option.bind (six s7.2 x11.2.2.2) fun j27 =>
              letM (s7.2.set j27 ({ (s7.2.getD j27 default) with State := (max ((s7.2.getD j25 default).State) ((a2.getD j26 default).State)) })) fun v28 =>
              some (.inl ((wr .i64 (s7.1 + 1)), v28))
      else
        some (.inr (.inl s7.2))
def usufructref06_Join (a1 : List THold) (a2 : List THold) : Option ((List THold) × Int) :=
  Option.bind (usufructref06_Rights a1) fun r3 =>
  Option.bind (gd ((!r3) = false) (usufructref06_Rights a2)) fun r4 =>
  if ((!r3) || (!r4)) = true then
    some (([] : List THold), 1)
  else
    Option.bind (app 40 ([] : List THold) a1) fun l5 =>
    Option.bind (loopM (usufructref06_Join_L1 a2) fuel (0, l5)) (onS (fun x8 => if (decide (16 < ((x8.length : Nat) : Int))) = true then
        some (([] : List THold), 7)
      else
        some (x8, 0))
    (fun r => some r))
def usufructref05_Behind (a1 : TLock) (a2 : TLock) : Option (Bool) :=
  if (!decide (a1.Seq = a2.Seq)) = true then
    letM (decide (a2.Seq < a1.Seq)) fun v3 =>
    some v3
  else
    if (!decide (a1.Ver = a2.Ver)) = true then
      letM (decide (a2.Ver < a1.Ver)) fun v4 =>
      some v4
    else
      if (!decide (a1.Holder = a2.Holder)) = true then
        letM (decide (a2.Holder < a1.Holder)) fun v5 =>
        some v5
      else
        letM (decide (a2.Value < a1.Value)) fun v6 =>
        some v6
def usufructref05_Join (a1 : TLock) (a2 : TLock) : Option (TLock) :=
  Option.bind (usufructref05_Behind a2 a1) fun r3 =>
  if r3 = true then
    some a2
  else
    some a1
def usufructref07_Join (a1 : TField) (a2 : TField) : Option (TField × Int) :=
  letM (((!decide (a1.Name = a2.Name)) || (!decide (a1.Kind = a2.Kind))) || (!decide (a1.Epoch = a2.Epoch))) fun v3 =>
  if v3 = true then
    letM (⟨(default : ByteArray), 0, 0, (default : TCounter), (default : TLock), ([] : List THold)⟩ : TField) fun v4 =>
    some (v4, 1)
  else
    Option.bind (usufructref04_Join a1.Counter a2.Counter) fun r5 =>
    if (!decide (r5.2 = 0)) = true then
      letM (⟨(default : ByteArray), 0, 0, (default : TCounter), (default : TLock), ([] : List THold)⟩ : TField) fun v6 =>
      some (v6, r5.2)
    else
      Option.bind (usufructref06_Join a1.Holds a2.Holds) fun r7 =>
      if (!decide (r7.2 = 0)) = true then
        letM (⟨(default : ByteArray), 0, 0, (default : TCounter), (default : TLock), ([] : List THold)⟩ : TField) fun v8 =>
        some (v8, r7.2)
      else
        letM ({ a1 with Counter := r5.1 }) fun v9 =>
        letM ({ v9 with Holds := r7.1 }) fun v10 =>
        Option.bind (usufructref05_Join v10.Lock a2.Lock) fun r11 =>
        letM ({ v10 with Lock := r11 }) fun v12 =>
        some (v12, 0)
def vec_Join_L1 (a2 : Vector Int 16) (s4 : Int × (Vector Int 16)) : Option ((Int × (Vector Int 16)) ⊕ ((Vector Int 16))) :=
  if (decide (s4.1 < 16)) = true then
      Option.bind (fix_ 16 s4.1) fun k6 =>
      Option.bind (fix_ 16 s4.1) fun k7 =>
      Option.bind (fix_ 16 s4.1) fun k8 =>
      letM (s4.2.set k8.val (max (s4.2.get k6) (a2.get k7))) fun v9 =>
      some (.inl ((wr .i64 (s4.1 + 1)), v9))
    else
      some (.inr s4.2)
def vec_Join (a1 : Vector Int 16) (a2 : Vector Int 16) : Option ((Vector Int 16)) :=
  Option.bind (loopM (vec_Join_L1 a2) fuel (0, a1)) fun x5 =>
  some x5
def rights_Join_1 (a1 : Vector Int 16) (b2 : TRights) : Option (TRights) :=
  Option.bind (vec_Join b2.Given a1) fun r3 =>
  letM ({ b2 with Given := r3 }) fun v4 =>
  some v4
def rights_Join_1_2 (a1 : Vector Int 16) (b2 : TRights) : Option (TRights) :=
  Option.bind (vec_Join b2.Used a1) fun r3 =>
  letM ({ b2 with Used := r3 }) fun v4 =>
  some v4
def rights_Join_1_3 (k1 : Fin 16) (a2 : Vector Int 16) (b3 : TRights) : Option (TRights) :=
  letM (b3.Moved.get k1) fun v4 =>
  Option.bind (vec_Join v4 a2) fun r5 =>
  letM ({ b3 with Moved := (b3.Moved.set k1.val r5) }) fun v6 =>
  some v6
def rights_Join_L1 (a2 : TRights) (s6 : Int × TRights) : Option ((Int × TRights) ⊕ TRights) :=
  if (decide (s6.1 < 16)) = true then
      Option.bind (fix_ 16 s6.1) fun k8 =>
      Option.bind (fix_ 16 s6.1) fun k9 =>
      letM (a2.Moved.get k9) fun v10 =>
      Option.bind (rights_Join_1_3 k8 v10 s6.2) fun r11 =>
      some (.inl ((wr .i64 (s6.1 + 1)), r11))
    else
      some (.inr s6.2)
def rights_Join (a1 : TRights) (a2 : TRights) : Option (TRights) :=
  Option.bind (rights_Join_1 a2.Given a1) fun r3 =>
  Option.bind (rights_Join_1_2 a2.Used r3) fun r4 =>
  Option.bind (loopM (rights_Join_L1 a2) fuel (0, r4)) fun x7 =>
  some x7
def counter_Join (a1 : TCounter) (a2 : TCounter) : Option (TCounter × Int) :=
  letM (((!decide (a1.Init = a2.Init)) || (!decide (a1.Low = a2.Low))) || (!decide (a1.High = a2.High))) fun v3 =>
  if v3 = true then
    letM (⟨0, 0, 0, (default : TRights), (default : TRights)⟩ : TCounter) fun v4 =>
    some (v4, 1)
  else
    Option.bind (rights_Join a1.Down a2.Down) fun r5 =>
    Option.bind (rights_Join a1.Up a2.Up) fun r6 =>
    letM ({ a1 with Down := r5 }) fun v7 =>
    letM ({ v7 with Up := r6 }) fun v8 =>
    some (v8, 0)
def hold_Join_L1 (a1 : List THold) (s7 : Int × (AMap (Vector Int 2) Int okInts)) : Option ((Int × (AMap (Vector Int 2) Int okInts)) ⊕ ((AMap (Vector Int 2) Int okInts))) :=
  if (decide (s7.1 < (a1.length : Int))) = true then
        Option.bind (six a1 s7.1) fun j9 =>
        letM (a1.getD j9 default) fun v10 =>
        Option.bind (AMap.put s7.2 (#v[v10.Replica, v10.Number] : Vector Int 2) s7.1) fun p11 =>
        some (.inl ((wr .i64 (s7.1 + 1)), p11))
      else
        some (.inr s7.2)
def hold_Join_L2 (a2 : List THold) (x8 : (AMap (Vector Int 2) Int okInts)) (s13 : Int × (List THold)) : Option ((Int × (List THold)) ⊕ (((List THold)) ⊕ ((List THold) × Int))) :=
  if (decide (s13.1 < (a2.length : Int))) = true then
          Option.bind (six a2 s13.1) fun j15 =>
          letM (a2.getD j15 default) fun v16 =>
          Option.bind (AMap.get x8 (#v[v16.Replica, v16.Number] : Vector Int 2)) fun o17 =>
          if (!o17.isSome) = true then
            Option.bind (app 40 s13.2 [v16]) fun l18 =>
            some (.inl ((wr .i64 (s13.1 + 1)), l18))
          else
            Option.bind (six s13.2 (o17.getD default)) fun j19 =>
            Option.bind (gd ((!decide ((s13.2.getD j19 default).Amount = v16.Amount)) = false) (six s13.2 (o17.getD default))) fun j20 =>
            letM ((!decide ((s13.2.getD j19 default).Amount = v16.Amount)) || (!decide ((s13.2.getD j20 default).Due = v16.Due))) fun v21 =>
            if v21 = true then
              some (.inr (.inr (([] : List THold), 1)))
            else
              Option.bind (six s13.2 (o17.getD default)) fun j22 =>
              Option.bind (six s13.2 (o17.getD default)) fun j23 =>
              letM (s13.2.set j23 ({ (s13.2.getD j23 default) with State := (max ((s13.2.getD j22 default).State) v16.State) })) fun v24 =>
              some (.inl ((wr .i64 (s13.1 + 1)), v24))
        else
          some (.inr (.inl s13.2))
def hold_Join (a1 : List THold) (a2 : List THold) : Option ((List THold) × Int) :=
  Option.bind (hold_Rights a1) fun r3 =>
  Option.bind (gd ((!r3) = false) (hold_Rights a2)) fun r4 =>
  if ((!r3) || (!r4)) = true then
    some (([] : List THold), 1)
  else
    Option.bind (app 40 [] a1) fun l5 =>
    Option.bind (loopM (hold_Join_L1 a1) fuel (0, (AMap.empty : AMap (Vector Int 2) Int okInts))) fun x8 =>
    Option.bind (loopM (hold_Join_L2 a2 x8) fuel (0, l5)) (onS (fun x14 => if (decide (16 < ((x14.length : Nat) : Int))) = true then
          some (([] : List THold), 7)
        else
          Option.bind (sortM holdCmp x14) fun l25 =>
          some (l25, 0))
      (fun r => some r))
def lock_Compare_L1 (a1 : TLock) (a2 : TLock) (s4 : Int) : Option (Int ⊕ (Unit ⊕ Int)) :=
  if (decide (s4 < 4)) = true then
      Option.bind (fix_ 4 s4) fun k6 =>
      letM ((#v[(#v[a1.Seq, a2.Seq] : Vector Int 2), (#v[a1.Ver, a2.Ver] : Vector Int 2), (#v[a1.Holder, a2.Holder] : Vector Int 2), (#v[a1.Value, a2.Value] : Vector Int 2)] : Vector (Vector Int 2) 4).get k6) fun v7 =>
      Option.bind (fix_ 2 0) fun k8 =>
      Option.bind (fix_ 2 1) fun k9 =>
      if (!decide ((v7.get k8) = (v7.get k9))) = true then
        Option.bind (fix_ 2 0) fun k10 =>
        Option.bind (fix_ 2 1) fun k11 =>
        if (decide ((v7.get k11) < (v7.get k10))) = true then
          some (.inr (.inr 1))
        else
          some (.inr (.inr (-1)))
      else
        some (.inl (wr .i64 (s4 + 1)))
    else
      some (.inr (.inl ()))
def lock_Compare (a1 : TLock) (a2 : TLock) : Option (Int) :=
  Option.bind (loopM (lock_Compare_L1 a1 a2) fuel 0) (onS (fun x5 => some 0)
  (fun r => some r))
def lock_Join (a1 : TLock) (a2 : TLock) : Option (TLock) :=
  Option.bind (lock_Compare a1 a2) fun r3 =>
  if (decide (r3 < 0)) = true then
    some a2
  else
    some a1
def field_Join (a1 : TField) (a2 : TField) : Option (TField × Int) :=
  letM (((!decide (a1.Name = a2.Name)) || (!decide (a1.Kind = a2.Kind))) || (!decide (a1.Epoch = a2.Epoch))) fun v3 =>
  if v3 = true then
    letM (⟨(default : ByteArray), 0, 0, (default : TCounter), (default : TLock), ([] : List THold)⟩ : TField) fun v4 =>
    some (v4, 1)
  else
    Option.bind (counter_Join a1.Counter a2.Counter) fun r5 =>
    if (!decide (r5.2 = 0)) = true then
      letM (⟨(default : ByteArray), 0, 0, (default : TCounter), (default : TLock), ([] : List THold)⟩ : TField) fun v6 =>
      some (v6, r5.2)
    else
      Option.bind (hold_Join a1.Holds a2.Holds) fun r7 =>
      if (!decide (r7.2 = 0)) = true then
        letM (⟨(default : ByteArray), 0, 0, (default : TCounter), (default : TLock), ([] : List THold)⟩ : TField) fun v8 =>
        some (v8, r7.2)
      else
        Option.bind (lock_Join a1.Lock a2.Lock) fun r9 =>
        letM ({ a1 with Counter := r5.1 }) fun v10 =>
        letM ({ v10 with Holds := r7.1 }) fun v11 =>
        letM ({ v11 with Lock := r9 }) fun v12 =>
        some (v12, 0)
def usufructref07_Same_L1 (a1 : TField) (a2 : TField) (s6 : Int) : Option (Int ⊕ (Unit ⊕ Bool)) :=
  if (decide (s6 < (a1.Holds.length : Int))) = true then
        Option.bind (six a1.Holds s6) fun j8 =>
        letM (a1.Holds.getD j8 default) fun v9 =>
        Option.bind (six a2.Holds s6) fun j10 =>
        letM (a2.Holds.getD j10 default) fun v11 =>
        if (!decide (v9 = v11)) = true then
          some (.inr (.inr false))
        else
          some (.inl (wr .i64 (s6 + 1)))
      else
        some (.inr (.inl ()))
def usufructref07_Same (a1 : TField) (a2 : TField) : Option (Bool) :=
  letM (((!decide (a1.Name = a2.Name)) || (!decide (a1.Kind = a2.Kind))) || (!decide (a1.Epoch = a2.Epoch))) fun v3 =>
  letM ((v3 || (!decide (a1.Counter = a2.Counter))) || (!decide (a1.Lock = a2.Lock))) fun v4 =>
  if (v4 || (!decide ((a1.Holds.length : Int) = (a2.Holds.length : Int)))) = true then
    some false
  else
    Option.bind (loopM (usufructref07_Same_L1 a1 a2) fuel 0) (onS (fun x7 => some true)
    (fun r => some r))
def usufructlaw10_WireJoins_L1 (r14 : TField × Twire_Residue × Int) (r16 : (List THold) × Int) (s22 : Int) : Option (Int ⊕ (Unit ⊕ Bool)) :=
  if (decide (s22 < (r16.1.length : Int))) = true then
            Option.bind (six r16.1 s22) fun j24 =>
            letM (r16.1.getD j24 default) fun v25 =>
            Option.bind (six r14.2.1.Holds s22) fun j26 =>
            letM (r14.2.1.Holds.getD j26 default) fun v27 =>
            if (!decide (v25 = v27)) = true then
              some (.inr (.inr false))
            else
              some (.inl (wr .i64 (s22 + 1)))
          else
            some (.inr (.inl ()))
def usufructlaw10_WireJoins (a1 : Int) (a2 : TField) (a3 : TField) : Option (Bool) :=
  Option.bind (usufructlaw07_Few [a2, a3]) fun r4 =>
  Option.bind (gd ((((!r4) || (decide (a1 < 1))) || (decide (3 < a1))) = false) (usufructref07_Right a2)) fun r5 =>
  Option.bind (gd (((((!r4) || (decide (a1 < 1))) || (decide (3 < a1))) || (!r5)) = false) (usufructref07_Right a3)) fun r6 =>
  letM (((((!r4) || (decide (a1 < 1))) || (decide (3 < a1))) || (!r5)) || (!r6)) fun v7 =>
  if v7 = true then
    Option.bind (usufructlaw10_awake) fun r8 =>
    some r8
  else
    Option.bind (usufructref07_Join a2 a3) fun r9 =>
    Option.bind (gd ((!decide (r9.2 = 0)) = false) (usufructref07_Right r9.1)) fun r10 =>
    if ((!decide (r9.2 = 0)) || (!r10)) = true then
      Option.bind (usufructlaw10_awake) fun r11 =>
      some r11
    else
      Option.bind (wire_Down a1 a2) fun r12 =>
      Option.bind (wire_Down a1 a3) fun r13 =>
      Option.bind (wire_Down a1 r9.1) fun r14 =>
      Option.bind (field_Join r12.1 r13.1) fun r15 =>
      Option.bind (usufructref06_Join r12.2.1.Holds r13.2.1.Holds) fun r16 =>
      letM (((!decide (r12.2.2 = 0)) || (!decide (r13.2.2 = 0))) || (!decide (r14.2.2 = 0))) fun v17 =>
      Option.bind (gd (((v17 || (!decide (r15.2 = 0))) || (!decide (r16.2 = 0))) = false) (usufructref07_Same r15.1 r14.1)) fun r18 =>
      letM ((((v17 || (!decide (r15.2 = 0))) || (!decide (r16.2 = 0))) || (!r18)) || (!decide (r14.2.1.Epoch = r12.2.1.Epoch))) fun v19 =>
      letM (v19 || (!decide ((r16.1.length : Int) = (r14.2.1.Holds.length : Int)))) fun v20 =>
      if v20 = true then
        some false
      else
        Option.bind (loopM (usufructlaw10_WireJoins_L1 r14 r16) fuel 0) (onS (fun x23 => Option.bind (usufructlaw10_awake) fun r28 =>
          some r28)
        (fun r => some r))
end Go.Av
