/- What the functions tell, as plain functions on typed values. -/
import Derived.Test.YtefanbolbeplmaaAvWireCutsK2
set_option linter.unusedSimpArgs false
set_option linter.unusedVariables false
set_option linter.unusedSectionVars false
namespace Go.Av
abbrev E_A16_i64 (x : Vector Int 16) : V := .arr 1 (x.toList.map (V.int .i64))
theorem ty_A16_i64 : TyOk E_A16_i64 16 true := TyOk.arr (k := 16) (TyOk.int .i64)
instance : TyC E_A16_i64 16 true := ⟨ty_A16_i64⟩
abbrev E_A16_A16_i64 (x : Vector (Vector Int 16) 16) : V := .arr 16 (x.toList.map E_A16_i64)
theorem ty_A16_A16_i64 : TyOk E_A16_A16_i64 256 true := TyOk.arr (k := 16) ty_A16_i64
instance : TyC E_A16_A16_i64 256 true := ⟨ty_A16_A16_i64⟩
structure TRights where
  Given : Vector Int 16
  Used : Vector Int 16
  Moved : Vector (Vector Int 16) 16
  deriving DecidableEq, Inhabited
abbrev E_TRights (x : TRights) : V := .st [E_A16_i64 x.Given, E_A16_i64 x.Used, E_A16_A16_i64 x.Moved]
theorem ty_TRights : TyOk E_TRights 288 true := ⟨fun x => fl_st (flL_c (ty_A16_i64.fl _) (flL_c (ty_A16_i64.fl _) (flL_c (ty_A16_A16_i64.fl _) flL_nil))), fun _ => rfl, fun _ => rfl, fun x m => lt_st (ltL_c (ty_A16_i64.lt _ _) (ltL_c (ty_A16_i64.lt _ _) (ltL_c (ty_A16_A16_i64.lt _ _) ltL_nil))), fun _ => rfl⟩
instance : TyC E_TRights 288 true := ⟨ty_TRights⟩
instance {x : TRights} : LtV (E_TRights x) := ⟨ty_TRights.lt x⟩
instance {x : TRights} : FlV (E_TRights x) 288 := ⟨ty_TRights.fl x⟩
structure TCounter where
  Init : Int
  Low : Int
  High : Int
  Down : TRights
  Up : TRights
  deriving DecidableEq, Inhabited
abbrev E_TCounter (x : TCounter) : V := .st [(V.int .i64) x.Init, (V.int .i64) x.Low, (V.int .i64) x.High, E_TRights x.Down, E_TRights x.Up]
theorem ty_TCounter : TyOk E_TCounter 579 true := ⟨fun x => fl_st (flL_c ((TyOk.int .i64).fl _) (flL_c ((TyOk.int .i64).fl _) (flL_c ((TyOk.int .i64).fl _) (flL_c (ty_TRights.fl _) (flL_c (ty_TRights.fl _) flL_nil))))), fun _ => rfl, fun _ => rfl, fun x m => lt_st (ltL_c ((TyOk.int .i64).lt _ _) (ltL_c ((TyOk.int .i64).lt _ _) (ltL_c ((TyOk.int .i64).lt _ _) (ltL_c (ty_TRights.lt _ _) (ltL_c (ty_TRights.lt _ _) ltL_nil))))), fun _ => rfl⟩
instance : TyC E_TCounter 579 true := ⟨ty_TCounter⟩
instance {x : TCounter} : LtV (E_TCounter x) := ⟨ty_TCounter.lt x⟩
instance {x : TCounter} : FlV (E_TCounter x) 579 := ⟨ty_TCounter.fl x⟩
structure TLock where
  Seq : Int
  Ver : Int
  Holder : Int
  Value : Int
  deriving DecidableEq, Inhabited
abbrev E_TLock (x : TLock) : V := .st [(V.int .i64) x.Seq, (V.int .i64) x.Ver, (V.int .i64) x.Holder, (V.int .i64) x.Value]
theorem ty_TLock : TyOk E_TLock 4 true := ⟨fun x => fl_st (flL_c ((TyOk.int .i64).fl _) (flL_c ((TyOk.int .i64).fl _) (flL_c ((TyOk.int .i64).fl _) (flL_c ((TyOk.int .i64).fl _) flL_nil)))), fun _ => rfl, fun _ => rfl, fun x m => lt_st (ltL_c ((TyOk.int .i64).lt _ _) (ltL_c ((TyOk.int .i64).lt _ _) (ltL_c ((TyOk.int .i64).lt _ _) (ltL_c ((TyOk.int .i64).lt _ _) ltL_nil)))), fun _ => rfl⟩
instance : TyC E_TLock 4 true := ⟨ty_TLock⟩
instance {x : TLock} : LtV (E_TLock x) := ⟨ty_TLock.lt x⟩
instance {x : TLock} : FlV (E_TLock x) 4 := ⟨ty_TLock.fl x⟩
structure THold where
  Replica : Int
  Number : Int
  Amount : Int
  Due : Int
  State : Int
  deriving DecidableEq, Inhabited
abbrev E_THold (x : THold) : V := .st [(V.int .i64) x.Replica, (V.int .i64) x.Number, (V.int .i64) x.Amount, (V.int .i64) x.Due, (V.int .i64) x.State]
theorem ty_THold : TyOk E_THold 5 true := ⟨fun x => fl_st (flL_c ((TyOk.int .i64).fl _) (flL_c ((TyOk.int .i64).fl _) (flL_c ((TyOk.int .i64).fl _) (flL_c ((TyOk.int .i64).fl _) (flL_c ((TyOk.int .i64).fl _) flL_nil))))), fun _ => rfl, fun _ => rfl, fun x m => lt_st (ltL_c ((TyOk.int .i64).lt _ _) (ltL_c ((TyOk.int .i64).lt _ _) (ltL_c ((TyOk.int .i64).lt _ _) (ltL_c ((TyOk.int .i64).lt _ _) (ltL_c ((TyOk.int .i64).lt _ _) ltL_nil))))), fun _ => rfl⟩
instance : TyC E_THold 5 true := ⟨ty_THold⟩
instance {x : THold} : LtV (E_THold x) := ⟨ty_THold.lt x⟩
instance {x : THold} : FlV (E_THold x) 5 := ⟨ty_THold.fl x⟩
abbrev E_S_THold (x : List THold) : V := .sl 5 .no (x.map E_THold)
theorem ty_S_THold : TyOk E_S_THold 1 false := TyOk.sl ty_THold
instance : TyC E_S_THold 1 false := ⟨ty_S_THold⟩
structure TField where
  Name : ByteArray
  Kind : Int
  Epoch : Int
  Counter : TCounter
  Lock : TLock
  Holds : List THold
  deriving DecidableEq, Inhabited
abbrev E_TField (x : TField) : V := .st [V.str x.Name, (V.int .i64) x.Kind, (V.int .i64) x.Epoch, E_TCounter x.Counter, E_TLock x.Lock, E_S_THold x.Holds]
theorem ty_TField : TyOk E_TField 587 true := ⟨fun x => fl_st (flL_c (TyOk.str.fl _) (flL_c ((TyOk.int .i64).fl _) (flL_c ((TyOk.int .i64).fl _) (flL_c (ty_TCounter.fl _) (flL_c (ty_TLock.fl _) (flL_c (ty_S_THold.fl _) flL_nil)))))), fun _ => rfl, fun _ => rfl, fun x m => lt_st (ltL_c (TyOk.str.lt _ _) (ltL_c ((TyOk.int .i64).lt _ _) (ltL_c ((TyOk.int .i64).lt _ _) (ltL_c (ty_TCounter.lt _ _) (ltL_c (ty_TLock.lt _ _) (ltL_c (ty_S_THold.lt _ _) ltL_nil)))))), fun _ => rfl⟩
instance : TyC E_TField 587 true := ⟨ty_TField⟩
instance {x : TField} : LtV (E_TField x) := ⟨ty_TField.lt x⟩
instance {x : TField} : FlV (E_TField x) 587 := ⟨ty_TField.fl x⟩
abbrev E_S_u8 (x : List Int) : V := .sl 1 .no (x.map (V.int .u8))
theorem ty_S_u8 : TyOk E_S_u8 1 false := TyOk.sl (TyOk.int .u8)
instance : TyC E_S_u8 1 false := ⟨ty_S_u8⟩
abbrev E_S_TField (x : List TField) : V := .sl 587 .no (x.map E_TField)
theorem ty_S_TField : TyOk E_S_TField 1 false := TyOk.sl ty_TField
instance : TyC E_S_TField 1 false := ⟨ty_S_TField⟩
abbrev E_S_i64 (x : List Int) : V := .sl 1 .no (x.map (V.int .i64))
theorem ty_S_i64 : TyOk E_S_i64 1 false := TyOk.sl (TyOk.int .i64)
instance : TyC E_S_i64 1 false := ⟨ty_S_i64⟩
abbrev E_A2_i64 (x : Vector Int 2) : V := .arr 1 (x.toList.map (V.int .i64))
theorem ty_A2_i64 : TyOk E_A2_i64 2 true := TyOk.arr (k := 2) (TyOk.int .i64)
instance : TyC E_A2_i64 2 true := ⟨ty_A2_i64⟩
abbrev E_A2_A2_i64 (x : Vector (Vector Int 2) 2) : V := .arr 2 (x.toList.map E_A2_i64)
theorem ty_A2_A2_i64 : TyOk E_A2_A2_i64 4 true := TyOk.arr (k := 2) ty_A2_i64
instance : TyC E_A2_A2_i64 4 true := ⟨ty_A2_A2_i64⟩
structure Twire_Residue where
  Epoch : Int
  Holds : List THold
  deriving DecidableEq, Inhabited
abbrev E_Twire_Residue (x : Twire_Residue) : V := .st [(V.int .i64) x.Epoch, E_S_THold x.Holds]
theorem ty_Twire_Residue : TyOk E_Twire_Residue 2 true := ⟨fun x => fl_st (flL_c ((TyOk.int .i64).fl _) (flL_c (ty_S_THold.fl _) flL_nil)), fun _ => rfl, fun _ => rfl, fun x m => lt_st (ltL_c ((TyOk.int .i64).lt _ _) (ltL_c (ty_S_THold.lt _ _) ltL_nil)), fun _ => rfl⟩
instance : TyC E_Twire_Residue 2 true := ⟨ty_Twire_Residue⟩
instance {x : Twire_Residue} : LtV (E_Twire_Residue x) := ⟨ty_Twire_Residue.lt x⟩
instance {x : Twire_Residue} : FlV (E_Twire_Residue x) 2 := ⟨ty_Twire_Residue.fl x⟩
theorem eqk_TLock : EqOk E_TLock := ⟨fun x y => eqv_st (eqv_c ((eqk_int _).is _ _) (eqv_c ((eqk_int _).is _ _) (eqv_c ((eqk_int _).is _ _) (eqv_c ((eqk_int _).is _ _) eqv_nil)))) (by cases x; cases y; simp [Bool.decide_and])⟩
theorem shk_TLock : ShOk E_TLock (.st [(0, .int .i64), (1, .int .i64), (2, .int .i64), (3, .int .i64)] 4) := ⟨fun x => hasSh_st (flL_c ((TyOk.int .i64).fl x.Seq) (flL_c ((TyOk.int .i64).fl x.Ver) (flL_c ((TyOk.int .i64).fl x.Holder) (flL_c ((TyOk.int .i64).fl x.Value) flL_nil)))) (hasShF_c rfl ((shk_int _).is _) ((TyOk.int .i64).fl x.Seq) (hasShF_c rfl ((shk_int _).is _) ((TyOk.int .i64).fl x.Ver) (hasShF_c rfl ((shk_int _).is _) ((TyOk.int .i64).fl x.Holder) (hasShF_c rfl ((shk_int _).is _) ((TyOk.int .i64).fl x.Value) hasShF_nil))))⟩
theorem eqk_A16_i64 : EqOk E_A16_i64 := eqk_arr (eqk_int _)
theorem shk_A16_i64 : ShOk E_A16_i64 (.arr 16 1 (.int .i64)) := shk_arr (shk_int _)
theorem eqk_A16_A16_i64 : EqOk E_A16_A16_i64 := eqk_arr eqk_A16_i64
theorem shk_A16_A16_i64 : ShOk E_A16_A16_i64 (.arr 16 16 (.arr 16 1 (.int .i64))) := shk_arr shk_A16_i64
theorem eqk_TRights : EqOk E_TRights := ⟨fun x y => eqv_st (eqv_c (eqk_A16_i64.is _ _) (eqv_c (eqk_A16_i64.is _ _) (eqv_c (eqk_A16_A16_i64.is _ _) eqv_nil))) (by cases x; cases y; simp [Bool.decide_and])⟩
theorem shk_TRights : ShOk E_TRights (.st [(0, .arr 16 1 (.int .i64)), (16, .arr 16 1 (.int .i64)), (32, .arr 16 16 (.arr 16 1 (.int .i64)))] 288) := ⟨fun x => hasSh_st (flL_c (ty_A16_i64.fl x.Given) (flL_c (ty_A16_i64.fl x.Used) (flL_c (ty_A16_A16_i64.fl x.Moved) flL_nil))) (hasShF_c rfl (shk_A16_i64.is _) (ty_A16_i64.fl x.Given) (hasShF_c rfl (shk_A16_i64.is _) (ty_A16_i64.fl x.Used) (hasShF_c rfl (shk_A16_A16_i64.is _) (ty_A16_A16_i64.fl x.Moved) hasShF_nil)))⟩
theorem eqk_TCounter : EqOk E_TCounter := ⟨fun x y => eqv_st (eqv_c ((eqk_int _).is _ _) (eqv_c ((eqk_int _).is _ _) (eqv_c ((eqk_int _).is _ _) (eqv_c (eqk_TRights.is _ _) (eqv_c (eqk_TRights.is _ _) eqv_nil))))) (by cases x; cases y; simp [Bool.decide_and])⟩
theorem shk_TCounter : ShOk E_TCounter (.st [(0, .int .i64), (1, .int .i64), (2, .int .i64), (3, .st [(0, .arr 16 1 (.int .i64)), (16, .arr 16 1 (.int .i64)), (32, .arr 16 16 (.arr 16 1 (.int .i64)))] 288), (291, .st [(0, .arr 16 1 (.int .i64)), (16, .arr 16 1 (.int .i64)), (32, .arr 16 16 (.arr 16 1 (.int .i64)))] 288)] 579) := ⟨fun x => hasSh_st (flL_c ((TyOk.int .i64).fl x.Init) (flL_c ((TyOk.int .i64).fl x.Low) (flL_c ((TyOk.int .i64).fl x.High) (flL_c (ty_TRights.fl x.Down) (flL_c (ty_TRights.fl x.Up) flL_nil))))) (hasShF_c rfl ((shk_int _).is _) ((TyOk.int .i64).fl x.Init) (hasShF_c rfl ((shk_int _).is _) ((TyOk.int .i64).fl x.Low) (hasShF_c rfl ((shk_int _).is _) ((TyOk.int .i64).fl x.High) (hasShF_c rfl (shk_TRights.is _) (ty_TRights.fl x.Down) (hasShF_c rfl (shk_TRights.is _) (ty_TRights.fl x.Up) hasShF_nil)))))⟩
abbrev E_S_S_THold (x : List (List THold)) : V := .sl 1 .no (x.map E_S_THold)
theorem ty_S_S_THold : TyOk E_S_S_THold 1 false := TyOk.sl ty_S_THold
instance : TyC E_S_S_THold 1 false := ⟨ty_S_S_THold⟩
theorem eqk_THold : EqOk E_THold := ⟨fun x y => eqv_st (eqv_c ((eqk_int _).is _ _) (eqv_c ((eqk_int _).is _ _) (eqv_c ((eqk_int _).is _ _) (eqv_c ((eqk_int _).is _ _) (eqv_c ((eqk_int _).is _ _) eqv_nil))))) (by cases x; cases y; simp [Bool.decide_and])⟩
theorem shk_THold : ShOk E_THold (.st [(0, .int .i64), (1, .int .i64), (2, .int .i64), (3, .int .i64), (4, .int .i64)] 5) := ⟨fun x => hasSh_st (flL_c ((TyOk.int .i64).fl x.Replica) (flL_c ((TyOk.int .i64).fl x.Number) (flL_c ((TyOk.int .i64).fl x.Amount) (flL_c ((TyOk.int .i64).fl x.Due) (flL_c ((TyOk.int .i64).fl x.State) flL_nil))))) (hasShF_c rfl ((shk_int _).is _) ((TyOk.int .i64).fl x.Replica) (hasShF_c rfl ((shk_int _).is _) ((TyOk.int .i64).fl x.Number) (hasShF_c rfl ((shk_int _).is _) ((TyOk.int .i64).fl x.Amount) (hasShF_c rfl ((shk_int _).is _) ((TyOk.int .i64).fl x.Due) (hasShF_c rfl ((shk_int _).is _) ((TyOk.int .i64).fl x.State) hasShF_nil)))))⟩
abbrev E_P_A16_i64 (x : Vector Int 16) : V := .cptr (E_A16_i64 x)
theorem ty_P_A16_i64 : TyOk E_P_A16_i64 1 false := .cptr ty_A16_i64
instance : TyC E_P_A16_i64 1 false := ⟨ty_P_A16_i64⟩
abbrev E_S_P_A16_i64 (x : List (Vector Int 16)) : V := .sl 1 .no (x.map E_P_A16_i64)
theorem ty_S_P_A16_i64 : TyOk E_S_P_A16_i64 1 false := TyOk.sl ty_P_A16_i64
instance : TyC E_S_P_A16_i64 1 false := ⟨ty_S_P_A16_i64⟩
abbrev E_S_S_P_A16_i64 (x : List (List (Vector Int 16))) : V := .sl 1 .no (x.map E_S_P_A16_i64)
theorem ty_S_S_P_A16_i64 : TyOk E_S_S_P_A16_i64 1 false := TyOk.sl ty_S_P_A16_i64
instance : TyC E_S_S_P_A16_i64 1 false := ⟨ty_S_S_P_A16_i64⟩
structure YosR where
  b : List Int
  e : Int
  deriving DecidableEq, Inhabited
abbrev E_YosR (x : YosR) : V := .st [E_S_u8 x.b, (V.int .i64) x.e]
theorem ty_YosR : TyOk E_YosR 2 true := ⟨fun x => fl_st (flL_c (ty_S_u8.fl _) (flL_c ((TyOk.int .i64).fl _) flL_nil)), fun _ => rfl, fun _ => rfl, fun x m => lt_st (ltL_c (ty_S_u8.lt _ _) (ltL_c ((TyOk.int .i64).lt _ _) ltL_nil)), fun _ => rfl⟩
instance : TyC E_YosR 2 true := ⟨ty_YosR⟩
instance {x : YosR} : LtV (E_YosR x) := ⟨ty_YosR.lt x⟩
instance {x : YosR} : FlV (E_YosR x) 2 := ⟨ty_YosR.fl x⟩
def vpc (k : Nat) : List Nat := (if k < 18 then 3 else 4) :: (if k % 18 = 0 then [0] else if k % 18 = 1 then [1] else [2, k % 18 - 2])
def vo (k : Nat) : Nat := 3 + 16 * k
def vptrs (o : Nat) : List V := (List.range 36).map fun k => V.ptr o (3 :: vpc k) (3 + vo k)
def rgk (r : TRights) (i : Nat) : Vector Int 16 := if i = 0 then r.Given else if i = 1 then r.Used else if h : i - 2 < 16 then r.Moved.get ⟨i - 2, h⟩ else default
def rsk (r : TRights) (i : Nat) (v : Vector Int 16) : TRights := if i = 0 then { r with Given := v } else if i = 1 then { r with Used := v } else if h : i - 2 < 16 then { r with Moved := r.Moved.set (i - 2) v } else r
def vgk (f : TCounter) (k : Nat) : Vector Int 16 := if k < 18 then rgk f.Down (k % 18) else rgk f.Up (k % 18)
def vsk (f : TCounter) (k : Nat) (v : Vector Int 16) : TCounter := if k < 18 then { f with Down := rsk f.Down (k % 18) v } else { f with Up := rsk f.Up (k % 18) v }
theorem rg_at {r : TRights} {i off : Nat} {p : List Nat} {u : V} (hi : i < 18) (h : AtP (E_A16_i64 (rgk r i)) p off u) : AtP (E_TRights r) ((if i = 0 then [0] else if i = 1 then [1] else [2, i - 2]) ++ p) (16 * i + off) u := by
  unfold rgk at h
  by_cases h0 : i = 0
  · subst h0; have := AtP.f (vs := [E_A16_i64 r.Given, E_A16_i64 r.Used, E_A16_A16_i64 r.Moved]) (k := 0) rfl h; simpa using this
  · by_cases h1 : i = 1
    · subst h1; have := AtP.f (vs := [E_A16_i64 r.Given, E_A16_i64 r.Used, E_A16_A16_i64 r.Moved]) (k := 1) rfl h; simpa using this
    · have h2 : i - 2 < 16 := by omega
      rw [if_neg h0, if_neg h1, dif_pos h2] at h
      have := AtP.f (vs := [E_A16_i64 r.Given, E_A16_i64 r.Used, E_A16_A16_i64 r.Moved]) (k := 2) rfl (AtP.vc (f := E_A16_i64) (e := 16) ⟨i - 2, h2⟩ h)
      rw [if_neg h0, if_neg h1]
      have e : 16 * 1 + (16 * 1 + 0) + ((i - 2) * 16 + off) = 16 * i + off := by omega
      exact e ▸ this
theorem rs_set {r : TRights} {i : Nat} {p : List Nat} {x : V} {v : Vector Int 16} (hi : i < 18) (h : SetP (E_A16_i64 (rgk r i)) p x (E_A16_i64 v)) : SetP (E_TRights r) ((if i = 0 then [0] else if i = 1 then [1] else [2, i - 2]) ++ p) x (E_TRights (rsk r i v)) := by
  unfold rgk at h
  unfold rsk
  by_cases h0 : i = 0
  · subst h0; exact .st (k := 0) rfl h rfl
  · by_cases h1 : i = 1
    · subst h1; exact .st (k := 1) rfl h rfl
    · have h2 : i - 2 < 16 := by omega
      rw [if_neg h0, if_neg h1, dif_pos h2] at h
      rw [if_neg h0, if_neg h1, if_neg h0, if_neg h1, dif_pos h2]
      exact .st (k := 2) rfl (SetP.vc (f := E_A16_i64) (e := 16) v ⟨i - 2, h2⟩ h) rfl
theorem vp_at {f : TCounter} {k : Fin 36} {off : Nat} {p : List Nat} {u : V} (h : AtP (E_A16_i64 (vgk f k.val)) p off u) : AtP (E_TCounter f) (vpc k.val ++ p) (vo k.val + off) u := by
  obtain ⟨k, hk⟩ := k
  have hm : k % 18 < 18 := Nat.mod_lt _ (by decide)
  unfold vgk at h
  unfold vpc vo
  by_cases c : k < 18
  · rw [if_pos c] at h
    have := AtP.f (vs := [I f.Init, I f.Low, I f.High, E_TRights f.Down, E_TRights f.Up]) (k := 3) rfl (rg_at hm h)
    rw [if_pos c]
    have e : 1 + (1 + (1 + 0)) + (16 * (k % 18) + off) = 3 + 16 * k + off := by rw [Nat.mod_eq_of_lt c]; omega
    exact e ▸ this
  · rw [if_neg c] at h
    have := AtP.f (vs := [I f.Init, I f.Low, I f.High, E_TRights f.Down, E_TRights f.Up]) (k := 4) rfl (rg_at hm h)
    rw [if_neg c]
    have e : 1 + (1 + (1 + (16 * 1 + (16 * 1 + (16 * 16 + 0)) + 0))) + (16 * (k % 18) + off) = 3 + 16 * k + off := by
      have : k % 18 = k - 18 := by omega
      omega
    exact e ▸ this
theorem vp_set {f : TCounter} {k : Fin 36} {p : List Nat} {x : V} {v : Vector Int 16} (h : SetP (E_A16_i64 (vgk f k.val)) p x (E_A16_i64 v)) : SetP (E_TCounter f) (vpc k.val ++ p) x (E_TCounter (vsk f k.val v)) := by
  obtain ⟨k, hk⟩ := k
  have hm : k % 18 < 18 := Nat.mod_lt _ (by decide)
  unfold vgk at h
  unfold vpc vsk
  by_cases c : k < 18
  · rw [if_pos c] at h
    rw [if_pos c, if_pos c]
    exact .st (k := 3) rfl (rs_set hm h) rfl
  · rw [if_neg c] at h
    rw [if_neg c, if_neg c]
    exact .st (k := 4) rfl (rs_set hm h) rfl
theorem OpS.ixV36 {P : Program} {E : Operand → V} {H : List AObj} {dst : Option Tmp} {ty : TypeId} {pos : String} {aft : Array Edge} {gd : Option (Nat × Bool)} {t et : TypeId} {x i : Operand} {e : Nat} {b : Bool} {by_ o : Nat} {tk : Tk} {kd : IntKind} {n : Int} {k : Fin 36} (hl : sliOf P t = some (et, e, b, by_))
    (hx : E x = .sl e tk (vptrs o)) (hi : E i = .int kd n) (hj : fix_ 36 n = some k) : OpS P ⟨dst, .indexAddr t x i, ty, pos, aft, gd⟩ E H (.cptr (.ptr o (3 :: vpc k.val) (3 + vo k.val))) H := by
  obtain ⟨h0, h1, h2⟩ := fix_get hj
  refine .indexAddrS hl hx hi h0 (by simpa [vptrs] using h1) ?_
  rw [h2, vptrs, List.getElem?_map, List.getElem?_range k.isLt]; rfl
def ul07_Few_L1 (a1 : List TField) (s3 : Int) : Option (Int ⊕ (Unit ⊕ Bool)) := if (decide (s3 < (a1.length : Int))) = true then (six a1 s3).bind fun j5 => letM (a1.getD j5 default) fun v6 => letM ((decide (100 < (v6.Name.size : Int))) || (decide (40 < (v6.Holds.length : Int)))) fun v7 => if v7 = true then some (.inr (.inr false)) else some (.inl (wr .i64 (s3 + 1))) else some (.inr (.inl ()))
def ul07_Few (a1 : List TField) : Option (Bool) := (loopM (ul07_Few_L1 a1) fuel 0).bind (onS (fun x4 => some true) (fun r => some r))
def num_Is (a1 : Int) : Option (Bool) := letM ((decide ((-1099511627776) ≤ a1)) && (decide (a1 ≤ 1099511627776))) fun v2 => some v2
def num_checked_L1 (l3 : List Int) (s5 : Int) : Option (Int ⊕ (Unit ⊕ (Int × Int))) := if (decide (s5 < (l3.length : Int))) = true then (six l3 s5).bind fun j7 => (num_Is (l3.getD j7 default)).bind fun r8 => if (!r8) = true then some (.inr (.inr (0, 2))) else some (.inl (wr .i64 (s5 + 1))) else some (.inr (.inl ()))
def num_checked (a1 : Int) (a2 : List Int) : Option (Int × Int) := (app 8 a2 [a1]).bind fun l3 => (loopM (num_checked_L1 l3) fuel 0).bind (onS (fun x6 => some (a1, 0)) (fun r => some r))
def num_Sub (a1 : Int) (a2 : Int) : Option (Int × Int) := (num_checked (wr .i64 (a1 - a2)) [a1, a2]).bind fun r3 => some (r3.1, r3.2)
def counter_New (a1 : Int) (a2 : Int) (a3 : Int) : Option (TCounter × Int) := letM (⟨a1, a2, a3, (default : TRights), (default : TRights)⟩ : TCounter) fun v4 => (num_Sub a1 a2).bind fun r5 => (num_Sub a3 a1).bind fun r6 => (num_Sub a3 a2).bind fun r7 => letM (((!decide (r5.2 = 0)) || (!decide (r6.2 = 0))) || (!decide (r7.2 = 0))) fun v8 => if ((v8 || (decide (r5.1 < 0))) || (decide (r6.1 < 0))) = true then letM (⟨0, 0, 0, (default : TRights), (default : TRights)⟩ : TCounter) fun v9 => some (v9, 2) else (fix_ 16 0).bind fun k10 => letM ({ v4 with Down := { v4.Down with Given := (v4.Down.Given.set k10.val r5.1) } }) fun v11 => (fix_ 16 0).bind fun k12 => letM ({ v11 with Up := { v11.Up with Given := (v11.Up.Given.set k12.val r6.1) } }) fun v13 => some (v13, 0)
def field_Name_L1 (a1 : ByteArray) (s3 : Int) : Option (Int ⊕ (Unit ⊕ Bool)) := if (decide (s3 < (a1.size : Int))) = true then (bix a1 s3).bind fun n5 => (gd ((decide (n5 < 33)) = false) (bix a1 s3)).bind fun n6 => if ((decide (n5 < 33)) || (decide (126 < n6))) = true then some (.inr (.inr false)) else some (.inl (wr .i64 (s3 + 1))) else some (.inr (.inl ()))
def field_Name (a1 : ByteArray) : Option (Bool) := (loopM (field_Name_L1 a1) fuel 0).bind (onS (fun x4 => letM ((decide (1 ≤ (a1.size : Int))) && (decide ((a1.size : Int) ≤ 8))) fun v7 => some v7) (fun r => some r))
def field_done (a1 : TField) (a2 : Int) : Option (TField × Int) := if (!decide (a2 = 0)) = true then letM (⟨(default : ByteArray), 0, 0, (default : TCounter), (default : TLock), ([] : List THold)⟩ : TField) fun v3 => some (v3, a2) else (app 40 [] a1.Holds).bind fun r4 => letM ({ a1 with Holds := r4 }) fun v5 => some (v5, 0)
def field_Counter (a1 : ByteArray) (a2 : Int) (a3 : Int) (a4 : Int) : Option (TField × Int) := (counter_New a2 a3 a4).bind fun r5 => (field_Name a1).bind fun r6 => if (!r6) = true then letM (⟨a1, 1, 0, r5.1, (default : TLock), ([] : List THold)⟩ : TField) fun v7 => (field_done v7 1).bind fun r8 => some (r8.1, r8.2) else letM (⟨a1, 1, 0, r5.1, (default : TLock), ([] : List THold)⟩ : TField) fun v9 => (field_done v9 r5.2).bind fun r10 => some (r10.1, r10.2)
def rights_is (a1 : Int) : Option (Bool) := letM ((decide (0 ≤ a1)) && (decide (a1 < 16))) fun v2 => some v2
def rights_less_L1 (a1 : Vector Int 16) (s3 : Int × (List Int)) : Option ((Int × (List Int)) ⊕ ((List Int))) := if (decide (s3.1 < 16)) = true then (fix_ 16 s3.1).bind fun k5 => (app 8 s3.2 [(wr .i64 (0 - (a1.get k5)))]).bind fun l6 => some (.inl ((wr .i64 (s3.1 + 1)), l6)) else some (.inr s3.2)
def rights_less (a1 : Vector Int 16) : Option ((List Int)) := (loopM (rights_less_L1 a1) fuel (0, ([] : List Int))).bind fun x4 => some x4
def num_Add (a1 : Int) (a2 : Int) : Option (Int × Int) := (num_checked (wr .i64 (a1 + a2)) [a1, a2]).bind fun r3 => some (r3.1, r3.2)
def num_Must (a1 : Int) (a2 : Int) : Option (Int) := if (!decide (a2 = 0)) = true then none else some a1
def num_Sum_1_L1 (a1 : List Int) (s3 : Int × Int) : Option ((Int × Int) ⊕ Int) := if (decide (s3.1 < (a1.length : Int))) = true then (six a1 s3.1).bind fun j5 => (num_Add s3.2 (a1.getD j5 default)).bind fun r6 => (num_Must r6.1 r6.2).bind fun r7 => some (.inl ((wr .i64 (s3.1 + 1)), r7)) else some (.inr s3.2)
def num_Sum_1 (a1 : List Int) : Option (Int) := (loopM (num_Sum_1_L1 a1) fuel (0, 0)).bind fun x4 => some x4
def num_Sum_P_L1 (a1 : List Int) (s3 : Int × Int) : Option ((Int × Int) ⊕ Int) := if (decide (s3.1 < (a1.length : Int))) = true then (six a1 s3.1).bind fun j5 => (num_Add s3.2 (a1.getD j5 default)).bind fun r6 => if (decide (r6.2 = 0)) = true then some (.inl ((wr .i64 (s3.1 + 1)), r6.1)) else some (.inr r6.2) else none
def num_Sum_P (a1 : List Int) : Option Int := loopM (num_Sum_P_L1 a1) fuel (0, 0)
def num_Sum (a1 : List Int) : Option (Int × Int) := (tryM (num_Sum_1 a1) (num_Sum_P a1)).bind fun r2 => some (r2.1, r2.2)
def rights_Free_L1 (a1 : TRights) (a2 : Int) (s6 : Int × (List Int)) : Option ((Int × (List Int)) ⊕ ((List Int))) := if (decide (s6.1 < 16)) = true then (fix_ 16 s6.1).bind fun k8 => letM (a1.Moved.get k8) fun v9 => (fix_ 16 a2).bind fun k10 => (app 8 s6.2 [(v9.get k10)]).bind fun l11 => some (.inl ((wr .i64 (s6.1 + 1)), l11)) else some (.inr s6.2)
def rights_Free (a1 : TRights) (a2 : Int) : Option (Int × Int) := (rights_is a2).bind fun r3 => if (!r3) = true then some (0, 1) else (fix_ 16 a2).bind fun k4 => (loopM (rights_Free_L1 a1 a2) fuel (0, [(a1.Given.get k4)])).bind fun x7 => (fix_ 16 a2).bind fun k12 => (app 8 x7 [(wr .i64 (0 - (a1.Used.get k12)))]).bind fun l13 => (fix_ 16 a2).bind fun k14 => letM (a1.Moved.get k14) fun v15 => (rights_less v15).bind fun r16 => (app 8 l13 r16).bind fun l17 => (num_Sum l17).bind fun r18 => some (r18.1, r18.2)
def counter_Room (a1 : TCounter) (a2 : Int) : Option (Int × Int) := (rights_Free a1.Down a2).bind fun r3 => (rights_Free a1.Up a2).bind fun r4 => some (r3.1, r4.1)
def hold_Sum_L1 (a1 : List THold) (a2 : Int) (s4 : Int × Int) : Option ((Int × Int) ⊕ Int) := if (decide (s4.1 < (a1.length : Int))) = true then (six a1 s4.1).bind fun j6 => letM (a1.getD j6 default) fun v7 => if ((decide (v7.Replica = a2)) && (decide (v7.State = 1))) = true then letM (min (wr .i64 (s4.2 + v7.Amount)) 1099511627776) fun v8 => some (.inl ((wr .i64 (s4.1 + 1)), v8)) else some (.inl ((wr .i64 (s4.1 + 1)), s4.2)) else some (.inr s4.2)
def hold_Sum (a1 : List THold) (a2 : Int) : Option (Int) := (loopM (hold_Sum_L1 a1 a2) fuel (0, 0)).bind fun x5 => some x5
def field_Loose (a1 : TField) (a2 : Int) : Option (Int × Int) := if (!decide (a1.Kind = 1)) = true then some (0, 0) else (counter_Room a1.Counter a2).bind fun r3 => (hold_Sum a1.Holds a2).bind fun r4 => some ((wr .i64 (r3.1 - r4)), r3.2)
def field_lacks (a1 : TField) (a2 : Int) (a3 : Int) : Option (Int) := (field_Loose a1 a2).bind fun r4 => if (!decide (a1.Kind = 1)) = true then some 17 else if (decide (r4.1 < a3)) = true then some 8 else some 0
def hold_count (a1 : Int) : Option (Bool) := (gd ((decide (0 ≤ a1)) = true) (num_Is a1)).bind fun r2 => letM ((decide (0 ≤ a1)) && r2) fun v3 => some v3
def hold_Right (a1 : THold) : Option (Bool) := letM (((decide (0 ≤ a1.Replica)) && (decide (a1.Replica < 16))) && (decide (1 ≤ a1.Number))) fun v2 => (gd (v2 = true) (num_Is a1.Number)).bind fun r3 => (gd ((v2 && r3) = true) (hold_count a1.Amount)).bind fun r4 => (gd (((v2 && r3) && r4) = true) (hold_count a1.Due)).bind fun r5 => letM (((((v2 && r3) && r4) && r5) && (decide (1 ≤ a1.State))) && (decide (a1.State ≤ 3))) fun v6 => some v6
def hold_compare_L1 (a1 : THold) (a2 : THold) (s4 : Int) : Option (Int ⊕ (Unit ⊕ Int)) := if (decide (s4 < 2)) = true then (fix_ 2 s4).bind fun k6 => letM ((#v[(#v[a1.Replica, a2.Replica] : Vector Int 2), (#v[a1.Number, a2.Number] : Vector Int 2)] : Vector (Vector Int 2) 2).get k6) fun v7 => (fix_ 2 0).bind fun k8 => (fix_ 2 1).bind fun k9 => if (!decide ((v7.get k8) = (v7.get k9))) = true then (fix_ 2 0).bind fun k10 => (fix_ 2 1).bind fun k11 => if (decide ((v7.get k10) < (v7.get k11))) = true then some (.inr (.inr (-1))) else some (.inr (.inr 1)) else some (.inl (wr .i64 (s4 + 1))) else some (.inr (.inl ()))
def hold_compare (a1 : THold) (a2 : THold) : Option (Int) := (loopM (hold_compare_L1 a1 a2) fuel 0).bind (onS (fun x5 => some 0) (fun r => some r))
def holdCmp (a b : THold) : Int := if a.Replica = b.Replica then (if a.Number = b.Number then 0 else if a.Number < b.Number then -1 else 1) else if a.Replica < b.Replica then -1 else 1
theorem hold_compare_eq (a b : THold) : hold_compare a b = some (holdCmp a b) := by
  have e0 : fix_ 2 0 = some (0 : Fin 2) := rfl
  have e1 : fix_ 2 1 = some (1 : Fin 2) := rfl
  have w0 : wr .i64 1 = 1 := by decide
  have w1 : wr .i64 2 = 2 := by decide
  have v0 : ∀ x y : Int, (#v[x, y] : Vector Int 2).get 0 = x := fun _ _ => rfl
  have v1 : ∀ x y : Int, (#v[x, y] : Vector Int 2).get 1 = y := fun _ _ => rfl
  have u0 : ∀ x y : Vector Int 2, (#v[x, y] : Vector (Vector Int 2) 2).get 0 = x := fun _ _ => rfl
  have u1 : ∀ x y : Vector Int 2, (#v[x, y] : Vector (Vector Int 2) 2).get 1 = y := fun _ _ => rfl
  have h0 : hold_compare_L1 a b 0 = if a.Replica = b.Replica then some (.inl 1) else if a.Replica < b.Replica then some (.inr (.inr (-1))) else some (.inr (.inr 1)) := by
    unfold hold_compare_L1
    simp [e0, e1, letM, w0, v0, v1, u0]
  have h1 : hold_compare_L1 a b 1 = if a.Number = b.Number then some (.inl 2) else if a.Number < b.Number then some (.inr (.inr (-1))) else some (.inr (.inr 1)) := by
    unfold hold_compare_L1
    simp [e0, e1, letM, w1, v0, v1, u1]
  have h2 : hold_compare_L1 a b 2 = some (.inr (.inl ())) := by unfold hold_compare_L1; simp
  unfold hold_compare holdCmp
  have hf : fuel = 1180591620717411303421 + 3 := rfl
  rw [hf]
  by_cases c0 : a.Replica = b.Replica
  · by_cases c1 : a.Number = b.Number
    · simp [loopM, h0, h1, h2, c0, c1, onS]
    · by_cases c2 : a.Number < b.Number <;> simp [loopM, h0, h1, c0, c1, c2, onS]
  · by_cases c2 : a.Replica < b.Replica <;> simp [loopM, h0, c0, c2, onS]
theorem holdCmp_lt (a b : THold) : Go.Proofs.ltOf holdCmp a b = decide (a.Replica < b.Replica ∨ (a.Replica = b.Replica ∧ a.Number < b.Number)) := by
  unfold Go.Proofs.ltOf holdCmp
  by_cases h : a.Replica = b.Replica
  · by_cases h1 : a.Number = b.Number
    · simp [h, h1]
    · by_cases h2 : a.Number < b.Number <;> simp [h, h1, h2]
  · by_cases h2 : a.Replica < b.Replica <;> simp [h, h2]
theorem holdCmp_swo : Go.Sort.SWO (Go.Proofs.ltOf holdCmp) := by
  refine ⟨fun x => ?_, fun x y z h1 h2 => ?_, fun x y z h1 h2 => ?_⟩ <;> simp only [holdCmp_lt, decide_eq_true_eq, decide_eq_false_iff_not] at * <;> omega

def hold_Rights_L1 (a1 : List THold) (s3 : Int) : Option (Int ⊕ (Unit ⊕ Bool)) := if (decide (s3 < (a1.length : Int))) = true then (six a1 s3).bind fun j5 => letM (a1.getD j5 default) fun v6 => (hold_Right v6).bind fun r7 => (gd (((!r7) = false) ∧ (decide (0 < s3)) = true) (six a1 (wr .i64 (s3 - 1)))).bind fun j8 => (gd (((!r7) = false) ∧ (decide (0 < s3)) = true) (hold_compare (a1.getD j8 default) v6)).bind fun r9 => if ((!r7) || ((decide (0 < s3)) && (decide (0 ≤ r9)))) = true then some (.inr (.inr false)) else some (.inl (wr .i64 (s3 + 1))) else some (.inr (.inl ()))
def hold_Rights (a1 : List THold) : Option (Bool) := (loopM (hold_Rights_L1 a1) fuel 0).bind (onS (fun x4 => letM (decide ((a1.length : Int) ≤ 16)) fun v10 => some v10) (fun r => some r))
def hold_Reserve_L1 (a1 : List THold) (a2 : Int) (s6 : Int × Int) : Option ((Int × Int) ⊕ Int) := if (decide (s6.1 < (a1.length : Int))) = true then (six a1 s6.1).bind fun j8 => letM (a1.getD j8 default) fun v9 => if (decide (v9.Replica = a2)) = true then letM (max s6.2 (wr .i64 (v9.Number + 1))) fun v10 => some (.inl ((wr .i64 (s6.1 + 1)), v10)) else some (.inl ((wr .i64 (s6.1 + 1)), s6.2)) else some (.inr s6.2)
def hold_Reserve (a1 : List THold) (a2 : Int) (a3 : Int) (a4 : Int) : Option ((List THold) × Int × Int) := (loopM (hold_Reserve_L1 a1 a2) fuel (0, 1)).bind fun x7 => letM (⟨a2, x7, a3, a4, 1⟩ : THold) fun v11 => (hold_Rights a1).bind fun r12 => (gd ((!r12) = false) (hold_Right v11)).bind fun r13 => if ((!r12) || (!r13)) = true then some (([] : List THold), 0, 1) else letM (decide ((a1.length : Int) = 16)) fun v14 => if v14 = true then some (([] : List THold), 0, 7) else (app 40 [] a1).bind fun l15 => (app 40 l15 [v11]).bind fun l16 => (sortM holdCmp l16).bind fun l17 => some (l17, x7, 0)
def field_Reserve (a1 : TField) (a2 : Int) (a3 : Int) (a4 : Int) : Option (TField × Int × Int) := (field_lacks a1 a2 a3).bind fun r5 => if (!decide (r5 = 0)) = true then letM (⟨(default : ByteArray), 0, 0, (default : TCounter), (default : TLock), ([] : List THold)⟩ : TField) fun v6 => some (v6, 0, r5) else (hold_Reserve a1.Holds a2 a3 a4).bind fun r7 => if (!decide (r7.2.2 = 0)) = true then letM (⟨(default : ByteArray), 0, 0, (default : TCounter), (default : TLock), ([] : List THold)⟩ : TField) fun v8 => some (v8, 0, r7.2.2) else letM ({ a1 with Holds := r7.1 }) fun v9 => some (v9, r7.2.1, 0)
def vec_Right_L1 (a1 : Vector Int 16) (s3 : Int) : Option (Int ⊕ (Unit ⊕ Bool)) := if (decide (s3 < 16)) = true then (fix_ 16 s3).bind fun k5 => (gd ((decide ((a1.get k5) < 0)) = false) (num_Is (a1.get k5))).bind fun r6 => if ((decide ((a1.get k5) < 0)) || (!r6)) = true then some (.inr (.inr false)) else some (.inl (wr .i64 (s3 + 1))) else some (.inr (.inl ()))
def vec_Right (a1 : Vector Int 16) : Option (Bool) := (loopM (vec_Right_L1 a1) fuel 0).bind (onS (fun x4 => some true) (fun r => some r))
def rights_Right_L1 (a1 : TRights) (s5 : Int) : Option (Int ⊕ (Unit ⊕ Bool)) := if (decide (s5 < 16)) = true then (fix_ 16 s5).bind fun k7 => letM (a1.Moved.get k7) fun v8 => (vec_Right v8).bind fun r9 => (gd ((!r9) = false) (fix_ 16 s5)).bind fun k10 => if ((!r9) || (!decide ((v8.get k10) = 0))) = true then some (.inr (.inr false)) else some (.inl (wr .i64 (s5 + 1))) else some (.inr (.inl ()))
def rights_Right (a1 : TRights) : Option (Bool) := (vec_Right a1.Given).bind fun r2 => (gd ((!r2) = false) (vec_Right a1.Used)).bind fun r3 => if ((!r2) || (!r3)) = true then some false else (loopM (rights_Right_L1 a1) fuel 0).bind (onS (fun x6 => some true) (fun r => some r))
def vec_Sum (a1 : Vector Int 16) : Option (Int × Int) := (num_Sum a1.toList).bind fun r2 => some (r2.1, r2.2)
def counter_given (a1 : TRights) (a2 : TRights) (a3 : Int) : Option (Bool) := (vec_Sum a1.Given).bind fun r4 => (vec_Sum a2.Used).bind fun r5 => (num_Add a3 r5.1).bind fun r6 => letM ((((decide (r4.2 = 0)) && (decide (r5.2 = 0))) && (decide (r6.2 = 0))) && (decide (r4.1 = r6.1))) fun v7 => some v7
def counter_Right (a1 : TCounter) : Option (Bool) := (num_Is a1.Init).bind fun r2 => (gd ((!r2) = false) (num_Is a1.Low)).bind fun r3 => (gd (((!r2) || (!r3)) = false) (num_Is a1.High)).bind fun r4 => letM (((((!r2) || (!r3)) || (!r4)) || (decide (a1.Init < a1.Low))) || (decide (a1.High < a1.Init))) fun v5 => if v5 = true then some false else (rights_Right a1.Down).bind fun r6 => (gd (r6 = true) (rights_Right a1.Up)).bind fun r7 => (gd ((r6 && r7) = true) (counter_given a1.Down a1.Up (wr .i64 (a1.Init - a1.Low)))).bind fun r8 => (gd (((r6 && r7) && r8) = true) (counter_given a1.Up a1.Down (wr .i64 (a1.High - a1.Init)))).bind fun r9 => letM (((r6 && r7) && r8) && r9) fun v10 => some v10
def lock_Right_1 (a1 : Int) : Option (Bool) := (gd ((decide (0 ≤ a1)) = true) (num_Is a1)).bind fun r2 => letM ((decide (0 ≤ a1)) && r2) fun v3 => some v3
def lock_is (a1 : Int) : Option (Bool) := letM ((decide (0 ≤ a1)) && (decide (a1 < 16))) fun v2 => some v2
def lock_Right (a1 : TLock) : Option (Bool) := (lock_Right_1 a1.Seq).bind fun r2 => (gd (r2 = true) (lock_Right_1 a1.Ver)).bind fun r3 => (gd ((r2 && r3) = true) (lock_is a1.Holder)).bind fun r4 => (gd (((r2 && r3) && r4) = true) (num_Is a1.Value)).bind fun r5 => letM (((r2 && r3) && r4) && r5) fun v6 => some v6
def field_Right (a1 : TField) : Option (Bool) := (field_Name a1.Name).bind fun r2 => (gd (((!r2) || (decide (a1.Epoch < 0))) = false) (num_Is a1.Epoch)).bind fun r3 => if (((!r2) || (decide (a1.Epoch < 0))) || (!r3)) = true then some false else if (decide (a1.Kind = 1)) = true then (counter_Right a1.Counter).bind fun r4 => (gd (r4 = true) (hold_Rights a1.Holds)).bind fun r5 => letM ((r4 && r5) && (decide (a1.Lock = (⟨0, 0, 0, 0⟩ : TLock)))) fun v6 => some v6 else if (decide (a1.Kind = 2)) = true then (lock_Right a1.Lock).bind fun r7 => letM ((r7 && (decide ((a1.Holds.length : Int) = 0))) && (decide (a1.Counter = (⟨0, 0, 0, (default : TRights), (default : TRights)⟩ : TCounter)))) fun v8 => some v8 else some false
def wire_is (a1 : Int) : Option (Bool) := letM ((decide (1 ≤ a1)) && (decide (a1 ≤ 3))) fun v2 => some v2
def wire_Down (a1 : Int) (a2 : TField) : Option (TField × Twire_Residue × Int) := (field_Right a2).bind fun r3 => if (!r3) = true then letM (⟨(default : ByteArray), 0, 0, (default : TCounter), (default : TLock), ([] : List THold)⟩ : TField) fun v4 => letM (⟨0, ([] : List THold)⟩ : Twire_Residue) fun v5 => some (v4, v5, 1) else (wire_is a1).bind fun r6 => if (!r6) = true then letM (⟨(default : ByteArray), 0, 0, (default : TCounter), (default : TLock), ([] : List THold)⟩ : TField) fun v7 => letM (⟨0, ([] : List THold)⟩ : Twire_Residue) fun v8 => some (v7, v8, 18) else (app 40 [] a2.Holds).bind fun r9 => letM ({ a2 with Holds := r9 }) fun v10 => if (decide (a1 < 3)) = true then letM ({ v10 with Epoch := 0 }) fun v11 => if (decide (a1 = 1)) = true then letM ({ v11 with Holds := ([] : List THold) }) fun v12 => letM (⟨v10.Epoch, v11.Holds⟩ : Twire_Residue) fun v13 => some (v12, v13, 0) else letM (⟨v10.Epoch, ([] : List THold)⟩ : Twire_Residue) fun v14 => some (v11, v14, 0) else if (decide (a1 = 1)) = true then letM ({ v10 with Holds := ([] : List THold) }) fun v15 => letM (⟨0, v10.Holds⟩ : Twire_Residue) fun v16 => some (v15, v16, 0) else letM (⟨0, ([] : List THold)⟩ : Twire_Residue) fun v17 => some (v10, v17, 0)
def slices_Grow_Hold_own (a1 : Int) : Option ((List THold)) := if (decide (a1 < 0)) = true then none else letM (wr .i64 (a1 - (wr .i64 (0 - 0)))) fun v2 => if (decide (0 < v2)) = true then (mkM 40 v2).bind fun u3 => some ([] : List THold) else some ([] : List THold)
def slices_Concat_Hold_L1 (a1 : List (List THold)) (s3 : Int × Int) : Option ((Int × Int) ⊕ Int) := if (decide (s3.1 < (a1.length : Int))) = true then (six a1 s3.1).bind fun j5 => letM (wr .i64 (s3.2 + ((a1.getD j5 default).length : Int))) fun v6 => if (decide (v6 < 0)) = true then none else some (.inl ((wr .i64 (s3.1 + 1)), v6)) else some (.inr s3.2)
def slices_Concat_Hold_L2 (a1 : List (List THold)) (s9 : Int × (List THold)) : Option ((Int × (List THold)) ⊕ ((List THold))) := if (decide (s9.1 < (a1.length : Int))) = true then (six a1 s9.1).bind fun j11 => (app 40 s9.2 (a1.getD j11 default)).bind fun l12 => some (.inl ((wr .i64 (s9.1 + 1)), l12)) else some (.inr s9.2)
def slices_Concat_Hold (a1 : List (List THold)) : Option ((List THold)) := (loopM (slices_Concat_Hold_L1 a1) fuel (0, 0)).bind fun x4 => (slices_Grow_Hold_own x4).bind fun r7 => (loopM (slices_Concat_Hold_L2 a1) fuel (0, r7)).bind fun x10 => some x10
def wire_Up (a1 : TField) (a2 : Twire_Residue) : Option (TField × Int) := (field_Right a1).bind fun r3 => letM (((!r3) || ((!decide (a2.Epoch = 0)) && (!decide (a1.Epoch = 0)))) || ((decide (0 < (a2.Holds.length : Int))) && (decide (0 < (a1.Holds.length : Int))))) fun v4 => if v4 = true then letM (⟨(default : ByteArray), 0, 0, (default : TCounter), (default : TLock), ([] : List THold)⟩ : TField) fun v5 => some (v5, 1) else (slices_Concat_Hold [a1.Holds, a2.Holds]).bind fun r6 => letM ({ a1 with Holds := r6 }) fun v7 => letM ({ v7 with Epoch := (wr .i64 (v7.Epoch + a2.Epoch)) }) fun v8 => (field_Right v8).bind fun r9 => if (!r9) = true then letM (⟨(default : ByteArray), 0, 0, (default : TCounter), (default : TLock), ([] : List THold)⟩ : TField) fun v10 => some (v10, 4) else some (v8, 0)
def wire_says : Option (Unit) := some ()
def wire_says_1 (a1 : TField) : Option (Bool) := letM ((decide (a1.Epoch = 0)) && (decide ((a1.Holds.length : Int) = 0))) fun v2 => some v2
def wire_says_2 (a1 : TField) : Option (Bool) := some (decide (a1.Epoch = 0))
def wire_says_3 (a1 : TField) : Option (Bool) := some true
def wire_Says (a1 : Int) (a2 : TField) : Option (Bool) := (field_Right a2).bind fun r3 => (gd (r3 = true) (wire_is a1)).bind fun r4 => if (r3 && r4) = true then (wire_says).bind fun u5 => (i64M a1).bind fun u6 => if (decide (a1 = 1)) = true then (wire_says_1 a2).bind fun r7 => some r7 else if (decide (a1 = 2)) = true then (wire_says_2 a2).bind fun r8 => some r8 else if (decide (a1 = 3)) = true then (wire_says_3 a2).bind fun r9 => some r9 else none else some false
def slices_Equal_Hold_L1 (a1 : List THold) (a2 : List THold) (s4 : Int) : Option (Int ⊕ (Unit ⊕ Bool)) := if (decide (s4 < (a1.length : Int))) = true then (six a1 s4).bind fun j6 => letM (a1.getD j6 default) fun v7 => (six a2 s4).bind fun j8 => letM (a2.getD j8 default) fun v9 => if (!decide (v7 = v9)) = true then some (.inr (.inr false)) else some (.inl (wr .i64 (s4 + 1))) else some (.inr (.inl ()))
def slices_Equal_Hold (a1 : List THold) (a2 : List THold) : Option (Bool) := if (!decide ((a1.length : Int) = (a2.length : Int))) = true then some false else (loopM (slices_Equal_Hold_L1 a1 a2) fuel 0).bind (onS (fun x5 => some true) (fun r => some r))
def field_Same (a1 : TField) (a2 : TField) : Option (Bool) := letM (((decide (a1.Name = a2.Name)) && (decide (a1.Kind = a2.Kind))) && (decide (a1.Epoch = a2.Epoch))) fun v3 => letM ((v3 && (decide (a1.Counter = a2.Counter))) && (decide (a1.Lock = a2.Lock))) fun v4 => (gd (v4 = true) (slices_Equal_Hold a1.Holds a2.Holds)).bind fun r5 => some (v4 && r5)
def ul10_awake : Option (Bool) := (field_Counter (⟨#[97]⟩ : ByteArray) 5 0 10).bind fun r1 => (field_Reserve r1.1 0 3 9).bind fun r2 => (wire_Down 1 r2.1).bind fun r3 => (wire_Up r3.1 r3.2.1).bind fun r4 => (gd ((decide (r2.2.2 = 0)) = true) (wire_Says 1 r2.1)).bind fun r5 => (gd (((decide (r2.2.2 = 0)) && (!r5)) = true) (wire_Says 2 r2.1)).bind fun r6 => letM (((((decide (r2.2.2 = 0)) && (!r5)) && r6) && (decide (r3.2.2 = 0))) && (decide ((r3.2.1.Holds.length : Int) = 1))) fun v7 => letM ((v7 && (decide ((r3.1.Holds.length : Int) = 0))) && (decide (r4.2 = 0))) fun v8 => (gd (v8 = true) (field_Same r4.1 r2.1)).bind fun r9 => some (v8 && r9)
def octets_Number_L1 (s7 : (List Int) × Int) : Option (((List Int) × Int) ⊕ ((List Int) × Int)) := if (decide (127 < s7.2)) = true then (app 1 s7.1 [(wr .u8 (iOr .i64 (iAnd .i64 s7.2 127) 128))]).bind fun l9 => some (.inl (l9, (iShr .i64 s7.2 7))) else some (.inr (s7.1, s7.2))
def octets_Number_L2 (s13 : (List Int) × Int) : Option (((List Int) × Int) ⊕ ((List Int) × Int)) := if (decide (127 < s13.2)) = true then (app 1 s13.1 [(wr .u8 (iOr .i64 (iAnd .i64 s13.2 127) 128))]).bind fun l15 => some (.inl (l15, (iShr .i64 s13.2 7))) else some (.inr (s13.1, s13.2))
def octets_Number_L3 (s20 : (List Int) × Int) : Option (((List Int) × Int) ⊕ ((List Int) × Int)) := if (decide (127 < s20.2)) = true then (app 1 s20.1 [(wr .u8 (iOr .i64 (iAnd .i64 s20.2 127) 128))]).bind fun l22 => some (.inl (l22, (iShr .i64 s20.2 7))) else some (.inr (s20.1, s20.2))
def octets_Number_L4 (s26 : (List Int) × Int) : Option (((List Int) × Int) ⊕ ((List Int) × Int)) := if (decide (127 < s26.2)) = true then (app 1 s26.1 [(wr .u8 (iOr .i64 (iAnd .i64 s26.2 127) 128))]).bind fun l28 => some (.inl (l28, (iShr .i64 s26.2 7))) else some (.inr (s26.1, s26.2))
def octets_Number (a1 : List Int) (a2 : Int) : Option ((List Int)) := (num_Is a2).bind fun r3 => if (!r3) = true then if (decide (0 < 0)) = true then letM (wr .i64 ((wr .i64 ((-2) * 0)) - 1)) fun v4 => (app 1 [] a1).bind fun l5 => (loopM (octets_Number_L1) fuel (l5, v4)).bind fun x8 => (app 1 x8.1 [(wr .u8 x8.2)]).bind fun l10 => some l10 else (app 1 [] a1).bind fun l11 => (loopM (octets_Number_L2) fuel (l11, (wr .i64 (2 * 0)))).bind fun x14 => (app 1 x14.1 [(wr .u8 x14.2)]).bind fun l16 => some l16 else if (decide (a2 < 0)) = true then letM (wr .i64 ((wr .i64 ((-2) * a2)) - 1)) fun v17 => (app 1 [] a1).bind fun l18 => (loopM (octets_Number_L3) fuel (l18, v17)).bind fun x21 => (app 1 x21.1 [(wr .u8 x21.2)]).bind fun l23 => some l23 else (app 1 [] a1).bind fun l24 => (loopM (octets_Number_L4) fuel (l24, (wr .i64 (2 * a2)))).bind fun x27 => (app 1 x27.1 [(wr .u8 x27.2)]).bind fun l29 => some l29
def wire_numbers_L1 (a2 : List Int) (s4 : Int × (List Int)) : Option ((Int × (List Int)) ⊕ ((List Int))) := if (decide (s4.1 < (a2.length : Int))) = true then (six a2 s4.1).bind fun j6 => (octets_Number s4.2 (a2.getD j6 default)).bind fun r7 => some (.inl ((wr .i64 (s4.1 + 1)), r7)) else some (.inr s4.2)
def wire_numbers (a1 : List Int) (a2 : List Int) : Option ((List Int)) := (loopM (wire_numbers_L1 a2) fuel (0, a1)).bind fun x5 => some x5
def octets_Number_own_L1 (s7 : (List Int) × Int) : Option (((List Int) × Int) ⊕ ((List Int) × Int)) := if (decide (127 < s7.2)) = true then (app 1 s7.1 [(wr .u8 (iOr .i64 (iAnd .i64 s7.2 127) 128))]).bind fun l9 => some (.inl (l9, (iShr .i64 s7.2 7))) else some (.inr (s7.1, s7.2))
def octets_Number_own_L2 (s13 : (List Int) × Int) : Option (((List Int) × Int) ⊕ ((List Int) × Int)) := if (decide (127 < s13.2)) = true then (app 1 s13.1 [(wr .u8 (iOr .i64 (iAnd .i64 s13.2 127) 128))]).bind fun l15 => some (.inl (l15, (iShr .i64 s13.2 7))) else some (.inr (s13.1, s13.2))
def octets_Number_own_L3 (s20 : (List Int) × Int) : Option (((List Int) × Int) ⊕ ((List Int) × Int)) := if (decide (127 < s20.2)) = true then (app 1 s20.1 [(wr .u8 (iOr .i64 (iAnd .i64 s20.2 127) 128))]).bind fun l22 => some (.inl (l22, (iShr .i64 s20.2 7))) else some (.inr (s20.1, s20.2))
def octets_Number_own_L4 (s26 : (List Int) × Int) : Option (((List Int) × Int) ⊕ ((List Int) × Int)) := if (decide (127 < s26.2)) = true then (app 1 s26.1 [(wr .u8 (iOr .i64 (iAnd .i64 s26.2 127) 128))]).bind fun l28 => some (.inl (l28, (iShr .i64 s26.2 7))) else some (.inr (s26.1, s26.2))
def octets_Number_own (a1 : List Int) (a2 : Int) : Option ((List Int)) := (num_Is a2).bind fun r3 => if (!r3) = true then if (decide (0 < 0)) = true then letM (wr .i64 ((wr .i64 ((-2) * 0)) - 1)) fun v4 => (app 1 [] a1).bind fun l5 => (loopM (octets_Number_own_L1) fuel (l5, v4)).bind fun x8 => (app 1 x8.1 [(wr .u8 x8.2)]).bind fun l10 => some l10 else (app 1 [] a1).bind fun l11 => (loopM (octets_Number_own_L2) fuel (l11, (wr .i64 (2 * 0)))).bind fun x14 => (app 1 x14.1 [(wr .u8 x14.2)]).bind fun l16 => some l16 else if (decide (a2 < 0)) = true then letM (wr .i64 ((wr .i64 ((-2) * a2)) - 1)) fun v17 => (app 1 [] a1).bind fun l18 => (loopM (octets_Number_own_L3) fuel (l18, v17)).bind fun x21 => (app 1 x21.1 [(wr .u8 x21.2)]).bind fun l23 => some l23 else (app 1 [] a1).bind fun l24 => (loopM (octets_Number_own_L4) fuel (l24, (wr .i64 (2 * a2)))).bind fun x27 => (app 1 x27.1 [(wr .u8 x27.2)]).bind fun l29 => some l29
def octets_Text (a1 : List Int) (a2 : ByteArray) : Option ((List Int)) := (octets_Number_own a1 (a2.size : Int)).bind fun r3 => (app 1 r3 (bytesOf a2)).bind fun l4 => some l4
def wire_vectors_L1 (a1 : TRights) (s3 : Int × (List (Vector Int 16))) : Option ((Int × (List (Vector Int 16))) ⊕ ((List (Vector Int 16)))) := if (decide (s3.1 < 16)) = true then (fix_ 16 s3.1).bind fun k5 => (app 8 s3.2 [(a1.Moved.get k5)]).bind fun l6 => some (.inl ((wr .i64 (s3.1 + 1)), l6)) else some (.inr s3.2)
def wire_vectors (a1 : TRights) : Option ((List (Vector Int 16))) := (loopM (wire_vectors_L1 a1) fuel (0, [a1.Given, a1.Used])).bind fun x4 => some x4
def slices_Grow_Vec_own (a1 : Int) : Option ((List (Vector Int 16))) := if (decide (a1 < 0)) = true then none else letM (wr .i64 (a1 - (wr .i64 (0 - 0)))) fun v2 => if (decide (0 < v2)) = true then (mkM 8 v2).bind fun u3 => some ([] : List (Vector Int 16)) else some ([] : List (Vector Int 16))
def slices_Concat_Vec_L1 (a1 : List (List (Vector Int 16))) (s3 : Int × Int) : Option ((Int × Int) ⊕ Int) := if (decide (s3.1 < (a1.length : Int))) = true then (six a1 s3.1).bind fun j5 => letM (wr .i64 (s3.2 + ((a1.getD j5 default).length : Int))) fun v6 => if (decide (v6 < 0)) = true then none else some (.inl ((wr .i64 (s3.1 + 1)), v6)) else some (.inr s3.2)
def slices_Concat_Vec_L2 (a1 : List (List (Vector Int 16))) (s9 : Int × (List (Vector Int 16))) : Option ((Int × (List (Vector Int 16))) ⊕ ((List (Vector Int 16)))) := if (decide (s9.1 < (a1.length : Int))) = true then (six a1 s9.1).bind fun j11 => (app 8 s9.2 (a1.getD j11 default)).bind fun l12 => some (.inl ((wr .i64 (s9.1 + 1)), l12)) else some (.inr s9.2)
def slices_Concat_Vec (a1 : List (List (Vector Int 16))) : Option ((List (Vector Int 16))) := (loopM (slices_Concat_Vec_L1 a1) fuel (0, 0)).bind fun x4 => (slices_Grow_Vec_own x4).bind fun r7 => (loopM (slices_Concat_Vec_L2 a1) fuel (0, r7)).bind fun x10 => some x10
def wire_Encode_L1 (r12 : (List (Vector Int 16))) (s14 : Int × (List Int)) : Option ((Int × (List Int)) ⊕ ((List Int))) := if (decide (s14.1 < (r12.length : Int))) = true then (six r12 s14.1).bind fun j16 => (wire_numbers s14.2 ((r12.getD j16 default).toList)).bind fun r17 => some (.inl ((wr .i64 (s14.1 + 1)), r17)) else some (.inr s14.2)
def wire_Encode_L2 (a2 : TField) (s20 : Int × (List Int)) : Option ((Int × (List Int)) ⊕ ((List Int))) := if (decide (s20.1 < (a2.Holds.length : Int))) = true then (six a2.Holds s20.1).bind fun j22 => letM (a2.Holds.getD j22 default) fun v23 => (wire_numbers s20.2 [v23.Replica, v23.Number, v23.Amount, v23.Due, v23.State]).bind fun r24 => some (.inl ((wr .i64 (s20.1 + 1)), r24)) else some (.inr s20.2)
def wire_Encode_L3 (r29 : (List (Vector Int 16))) (s31 : Int × (List Int)) : Option ((Int × (List Int)) ⊕ ((List Int))) := if (decide (s31.1 < (r29.length : Int))) = true then (six r29 s31.1).bind fun j33 => (wire_numbers s31.2 ((r29.getD j33 default).toList)).bind fun r34 => some (.inl ((wr .i64 (s31.1 + 1)), r34)) else some (.inr s31.2)
def wire_Encode_L4 (a2 : TField) (s37 : Int × (List Int)) : Option ((Int × (List Int)) ⊕ ((List Int))) := if (decide (s37.1 < (a2.Holds.length : Int))) = true then (six a2.Holds s37.1).bind fun j39 => letM (a2.Holds.getD j39 default) fun v40 => (wire_numbers s37.2 [v40.Replica, v40.Number, v40.Amount, v40.Due, v40.State]).bind fun r41 => some (.inl ((wr .i64 (s37.1 + 1)), r41)) else some (.inr s37.2)
def wire_Encode (a1 : Int) (a2 : TField) : Option ((List Int) × Int) := (field_Right a2).bind fun r3 => if (!r3) = true then some (([] : List Int), 1) else (wire_Says a1 a2).bind fun r4 => if (!r4) = true then some (([] : List Int), 18) else (wire_numbers ([] : List Int) [a1, a2.Kind]).bind fun r5 => (octets_Text r5 a2.Name).bind fun r6 => if (decide (a1 = 3)) = true then (wire_numbers r6 [a2.Epoch]).bind fun r7 => if (decide (a2.Kind = 2)) = true then (wire_numbers r7 [a2.Lock.Seq, a2.Lock.Ver, a2.Lock.Holder, a2.Lock.Value]).bind fun r8 => some (r8, 0) else (wire_numbers r7 [a2.Counter.Init, a2.Counter.Low, a2.Counter.High]).bind fun r9 => (wire_vectors a2.Counter.Down).bind fun r10 => (wire_vectors a2.Counter.Up).bind fun r11 => (slices_Concat_Vec [r10, r11]).bind fun r12 => (loopM (wire_Encode_L1 r12) fuel (0, r9)).bind fun x15 => if (decide (a1 = 1)) = true then some (x15, 0) else (wire_numbers x15 [(a2.Holds.length : Int)]).bind fun r18 => (loopM (wire_Encode_L2 a2) fuel (0, r18)).bind fun x21 => some (x21, 0) else if (decide (a2.Kind = 2)) = true then (wire_numbers r6 [a2.Lock.Seq, a2.Lock.Ver, a2.Lock.Holder, a2.Lock.Value]).bind fun r25 => some (r25, 0) else (wire_numbers r6 [a2.Counter.Init, a2.Counter.Low, a2.Counter.High]).bind fun r26 => (wire_vectors a2.Counter.Down).bind fun r27 => (wire_vectors a2.Counter.Up).bind fun r28 => (slices_Concat_Vec [r27, r28]).bind fun r29 => (loopM (wire_Encode_L3 r29) fuel (0, r26)).bind fun x32 => if (decide (a1 = 1)) = true then some (x32, 0) else (wire_numbers x32 [(a2.Holds.length : Int)]).bind fun r35 => (loopM (wire_Encode_L4 a2) fuel (0, r35)).bind fun x38 => some (x38, 0)
def octets_New_own (a1 : List Int) : Option (YosR) := (app 1 [] a1).bind fun r2 => letM (⟨r2, 0⟩ : YosR) fun v3 => some v3
def octets_Reader_Err (b1 : YosR) : Option (Int × YosR) := some (b1.e, b1)
def octets_Reader_Number_1 (a1 : Int) : Option (Bool) := some (decide (a1 < 128))
def slices_IndexFunc_byte_Reader_Number_1_L1 (a1 : List Int) (s3 : Int) : Option (Int ⊕ (Unit ⊕ Int)) := if (decide (s3 < (a1.length : Int))) = true then (six a1 s3).bind fun j5 => (octets_Reader_Number_1 (a1.getD j5 default)).bind fun r6 => if r6 = true then some (.inr (.inr s3)) else some (.inl (wr .i64 (s3 + 1))) else some (.inr (.inl ()))
def slices_IndexFunc_byte_Reader_Number_1 (a1 : List Int) : Option (Int) := (loopM (slices_IndexFunc_byte_Reader_Number_1_L1 a1) fuel 0).bind (onS (fun x4 => some (-1)) (fun r => some r))
def octets_Reader_fail (a2 : Int) (b1 : YosR) : Option (Int × YosR) := letM ({ b1 with e := a2 }) fun v3 => some (0, v3)
def octets_Reader_Number_L1 (r2 : Int × YosR) (s8 : Int × Int) : Option ((Int × Int) ⊕ Int) := if (decide (0 ≤ s8.1)) = true then (six r2.2.b s8.1).bind fun j10 => letM (iOr .i64 (iShl .i64 s8.2 7) (wr .i64 (iAnd .u8 (r2.2.b.getD j10 default) 127))) fun v11 => some (.inl ((wr .i64 (s8.1 - 1)), v11)) else some (.inr s8.2)
def octets_Reader_Number (b1 : YosR) : Option (Int × YosR) := (octets_Reader_Err b1).bind fun r2 => if (!decide (r2.1 = 0)) = true then some (0, r2.2) else (slices_IndexFunc_byte_Reader_Number_1 r2.2.b).bind fun r3 => letM ((decide (6 ≤ r3)) || ((decide (r3 < 0)) && (decide (6 < (r2.2.b.length : Int))))) fun v4 => if v4 = true then (octets_Reader_fail 4 r2.2).bind fun r5 => some (r5.1, r5.2) else if (decide (r3 < 0)) = true then (octets_Reader_fail 3 r2.2).bind fun r6 => some (r6.1, r6.2) else (loopM (octets_Reader_Number_L1 r2) fuel (r3, 0)).bind fun x9 => if (decide ((iAnd .i64 x9 1) = 1)) = true then letM (wr .i64 ((wr .i64 (0 - (iShr .i64 x9 1))) - 1)) fun v12 => (gd ((decide (0 < r3)) = true) (six r2.2.b r3)).bind fun j13 => letM ((decide (0 < r3)) && (decide ((r2.2.b.getD j13 default) = 0))) fun v14 => if v14 = true then (octets_Reader_fail 4 r2.2).bind fun r15 => some (r15.1, r15.2) else (num_Is v12).bind fun r16 => if (!r16) = true then (octets_Reader_fail 2 r2.2).bind fun r17 => some (r17.1, r17.2) else (ssl r2.2.b (wr .i64 (r3 + 1)) (r2.2.b.length : Int)).bind fun l18 => letM ({ r2.2 with b := l18 }) fun v19 => some (v12, v19) else (gd ((decide (0 < r3)) = true) (six r2.2.b r3)).bind fun j20 => letM ((decide (0 < r3)) && (decide ((r2.2.b.getD j20 default) = 0))) fun v21 => if v21 = true then (octets_Reader_fail 4 r2.2).bind fun r22 => some (r22.1, r22.2) else (num_Is (iShr .i64 x9 1)).bind fun r23 => if (!r23) = true then (octets_Reader_fail 2 r2.2).bind fun r24 => some (r24.1, r24.2) else (ssl r2.2.b (wr .i64 (r3 + 1)) (r2.2.b.length : Int)).bind fun l25 => letM ({ r2.2 with b := l25 }) fun v26 => some ((iShr .i64 x9 1), v26)
def wire_read (b1 : YosR) (b2 : TField) : Option (YosR × TField) := (octets_Reader_Number b1).bind fun r3 => some (r3.2, { b2 with Kind := r3.1, Holds := ([] : List THold) })
def octets_Reader_Count (a2 : Int) (b1 : YosR) : Option (Int × YosR) := (octets_Reader_Number b1).bind fun r3 => (octets_Reader_Err r3.2).bind fun r4 => if ((decide (r4.1 = 0)) && ((decide (r3.1 < 0)) || (decide (a2 < r3.1)))) = true then (octets_Reader_fail 2 r4.2).bind fun r5 => some (r5.1, r5.2) else some (r3.1, r4.2)
def octets_Reader_Text (a2 : Int) (b1 : YosR) : Option (ByteArray × YosR) := (octets_Reader_Count a2 b1).bind fun r3 => (octets_Reader_Err r3.2).bind fun r4 => if (!decide (r4.1 = 0)) = true then some ((⟨#[]⟩ : ByteArray), r4.2) else if (decide ((r4.2.b.length : Int) < r3.1)) = true then (octets_Reader_fail 3 r4.2).bind fun r5 => some ((⟨#[]⟩ : ByteArray), r5.2) else (ssl r4.2.b 0 r3.1).bind fun l6 => (ssl r4.2.b r3.1 (r4.2.b.length : Int)).bind fun l7 => letM ({ r4.2 with b := l7 }) fun v8 => some ((strOfNums l6), v8)
def wire_read_2 (b1 : YosR) (b2 : TField) : Option (YosR × TField) := (octets_Reader_Number b1).bind fun r3 => some (r3.2, { b2 with Epoch := r3.1, Holds := ([] : List THold) })
def wire_read_3 (b1 : YosR) (b2 : TField) : Option (YosR × TField) := (octets_Reader_Number b1).bind fun r3 => (octets_Reader_Number r3.2).bind fun r4 => (octets_Reader_Number r4.2).bind fun r5 => (octets_Reader_Number r5.2).bind fun r6 => some (r6.2, { b2 with Lock := { { { { b2.Lock with Seq := r3.1 } with Ver := r4.1 } with Holder := r5.1 } with Value := r6.1 }, Holds := ([] : List THold) })
def octets_Reader_End (b1 : YosR) : Option (Int × YosR) := (octets_Reader_Err b1).bind fun r2 => if (!decide (r2.1 = 0)) = true then some (r2.1, r2.2) else if (decide (0 < (r2.2.b.length : Int))) = true then some (5, r2.2) else some (0, r2.2)
def wire_read_4 (b1 : YosR) (b2 : TField) : Option (YosR × TField) := (octets_Reader_Number b1).bind fun r3 => (octets_Reader_Number r3.2).bind fun r4 => (octets_Reader_Number r4.2).bind fun r5 => some (r5.2, { b2 with Counter := { { { b2.Counter with Init := r3.1 } with Low := r4.1 } with High := r5.1 }, Holds := ([] : List THold) })
def wire_vectors_2 (b1 : TField) : Option (TField) := some ({ b1 with Holds := ([] : List THold) })
def wire_vectors_3 (b1 : TField) : Option (TField) := some ({ b1 with Holds := ([] : List THold) })
def slices_Concat_Vec_2 (b1 : TField) : Option (TField) := some ({ b1 with Holds := ([] : List THold) })
def wire_read_6 (k3 : Fin 36) (k4 : Fin 16) (b1 : YosR) (b2 : TField) : Option (YosR × TField) := (octets_Reader_Number b1).bind fun r5 => some (r5.2, { b2 with Counter := (vsk b2.Counter k3.val ((vgk b2.Counter k3.val).set k4.val r5.1)), Holds := ([] : List THold) })
def wire_read_7 (b1 : YosR) (b2 : THold) : Option (YosR × THold) := (octets_Reader_Number b1).bind fun r3 => letM ({ b2 with Replica := r3.1 }) fun v4 => (octets_Reader_Number r3.2).bind fun r5 => letM ({ v4 with Number := r5.1 }) fun v6 => (octets_Reader_Number r5.2).bind fun r7 => letM ({ v6 with Amount := r7.1 }) fun v8 => (octets_Reader_Number r7.2).bind fun r9 => letM ({ v8 with Due := r9.1 }) fun v10 => (octets_Reader_Number r9.2).bind fun r11 => letM ({ v10 with State := r11.1 }) fun v12 => some (r11.2, v12)
def wire_Decode_L2 (k24 : Fin 36) (s26 : Int × ByteArray × Int × Int × TCounter × TLock × YosR) : Option ((Int × ByteArray × Int × Int × TCounter × TLock × YosR) ⊕ (Bool × ByteArray × Int × Int × TCounter × TLock × YosR × Int)) := if (decide (s26.1 < 16)) = true then (fix_ 16 s26.1).bind fun k28 => (wire_read_6 k24 k28 s26.2.2.2.2.2.2 (⟨s26.2.1, s26.2.2.1, s26.2.2.2.1, s26.2.2.2.2.1, s26.2.2.2.2.2.1, ([] : List THold)⟩ : TField)).bind fun r29 => some (.inl ((wr .i64 (s26.1 + 1)), r29.2.Name, r29.2.Kind, r29.2.Epoch, r29.2.Counter, r29.2.Lock, r29.1)) else some (.inr ((decide (s26.1 < 16)), s26.2.1, s26.2.2.1, s26.2.2.2.1, s26.2.2.2.2.1, s26.2.2.2.2.2.1, s26.2.2.2.2.2.2, s26.1))
def wire_Decode_L1 (s22 : Int × ByteArray × Int × Int × TCounter × TLock × YosR) : Option ((Int × ByteArray × Int × Int × TCounter × TLock × YosR) ⊕ (ByteArray × Int × Int × TCounter × TLock × YosR)) := if (decide (s22.1 < 36)) = true then (fix_ 36 s22.1).bind fun k24 => (loopM (wire_Decode_L2 k24) fuel (0, s22.2.1, s22.2.2.1, s22.2.2.2.1, s22.2.2.2.2.1, s22.2.2.2.2.2.1, s22.2.2.2.2.2.2)).bind fun x27 => some (.inl ((wr .i64 (s22.1 + 1)), x27.2.1, x27.2.2.1, x27.2.2.2.1, x27.2.2.2.2.1, x27.2.2.2.2.2.1, x27.2.2.2.2.2.2.1)) else some (.inr (s22.2.1, s22.2.2.1, s22.2.2.2.1, s22.2.2.2.2.1, s22.2.2.2.2.2.1, s22.2.2.2.2.2.2))
def wire_Decode_L3 (r30 : Int × YosR) (s32 : Int × (List THold) × YosR) : Option ((Int × (List THold) × YosR) ⊕ ((List THold) × YosR)) := if (decide (s32.1 < r30.1)) = true then (wire_read_7 s32.2.2 (default : THold)).bind fun r34 => (app 40 s32.2.1 [r34.2]).bind fun l35 => some (.inl ((wr .i64 (s32.1 + 1)), l35, r34.1)) else some (.inr (s32.2.1, s32.2.2))
def wire_Decode_L5 (k68 : Fin 36) (s70 : Int × ByteArray × Int × Int × TCounter × TLock × YosR) : Option ((Int × ByteArray × Int × Int × TCounter × TLock × YosR) ⊕ (Bool × ByteArray × Int × Int × TCounter × TLock × YosR × Int)) := if (decide (s70.1 < 16)) = true then (fix_ 16 s70.1).bind fun k72 => (wire_read_6 k68 k72 s70.2.2.2.2.2.2 (⟨s70.2.1, s70.2.2.1, s70.2.2.2.1, s70.2.2.2.2.1, s70.2.2.2.2.2.1, ([] : List THold)⟩ : TField)).bind fun r73 => some (.inl ((wr .i64 (s70.1 + 1)), r73.2.Name, r73.2.Kind, r73.2.Epoch, r73.2.Counter, r73.2.Lock, r73.1)) else some (.inr ((decide (s70.1 < 16)), s70.2.1, s70.2.2.1, s70.2.2.2.1, s70.2.2.2.2.1, s70.2.2.2.2.2.1, s70.2.2.2.2.2.2, s70.1))
def wire_Decode_L4 (s66 : Int × ByteArray × Int × Int × TCounter × TLock × YosR) : Option ((Int × ByteArray × Int × Int × TCounter × TLock × YosR) ⊕ (ByteArray × Int × Int × TCounter × TLock × YosR)) := if (decide (s66.1 < 36)) = true then (fix_ 36 s66.1).bind fun k68 => (loopM (wire_Decode_L5 k68) fuel (0, s66.2.1, s66.2.2.1, s66.2.2.2.1, s66.2.2.2.2.1, s66.2.2.2.2.2.1, s66.2.2.2.2.2.2)).bind fun x71 => some (.inl ((wr .i64 (s66.1 + 1)), x71.2.1, x71.2.2.1, x71.2.2.2.1, x71.2.2.2.2.1, x71.2.2.2.2.2.1, x71.2.2.2.2.2.2.1)) else some (.inr (s66.2.1, s66.2.2.1, s66.2.2.2.1, s66.2.2.2.2.1, s66.2.2.2.2.2.1, s66.2.2.2.2.2.2))
def wire_Decode_L6 (r74 : Int × YosR) (s76 : Int × (List THold) × YosR) : Option ((Int × (List THold) × YosR) ⊕ ((List THold) × YosR)) := if (decide (s76.1 < r74.1)) = true then (wire_read_7 s76.2.2 (default : THold)).bind fun r78 => (app 40 s76.2.1 [r78.2]).bind fun l79 => some (.inl ((wr .i64 (s76.1 + 1)), l79, r78.1)) else some (.inr (s76.2.1, s76.2.2))
def wire_Decode (a1 : List Int) : Option (Int × TField × Int) := (octets_New_own a1).bind fun r2 => (octets_Reader_Number r2).bind fun r3 => (octets_Reader_Err r3.2).bind fun r4 => (gd ((decide (r4.1 = 0)) = true) (wire_is r3.1)).bind fun r5 => if ((decide (r4.1 = 0)) && (!r5)) = true then letM (⟨(default : ByteArray), 0, 0, (default : TCounter), (default : TLock), ([] : List THold)⟩ : TField) fun v6 => some (0, v6, 18) else (wire_read r4.2 (⟨(default : ByteArray), 0, 0, (default : TCounter), (default : TLock), ([] : List THold)⟩ : TField)).bind fun r7 => (octets_Reader_Text 8 r7.1).bind fun r8 => if (decide (r3.1 = 3)) = true then (wire_read_2 r8.2 (⟨r8.1, r7.2.Kind, r7.2.Epoch, r7.2.Counter, r7.2.Lock, ([] : List THold)⟩ : TField)).bind fun r9 => if (decide (r9.2.Kind = 2)) = true then (wire_read_3 r9.1 (⟨r9.2.Name, r9.2.Kind, r9.2.Epoch, r9.2.Counter, r9.2.Lock, ([] : List THold)⟩ : TField)).bind fun r10 => (octets_Reader_End r10.1).bind fun r11 => (gd ((decide (r11.1 = 0)) = true) (wire_Says r3.1 (⟨r10.2.Name, r10.2.Kind, r10.2.Epoch, r10.2.Counter, r10.2.Lock, ([] : List THold)⟩ : TField))).bind fun r12 => if ((decide (r11.1 = 0)) && (!r12)) = true then if (!decide (4 = 0)) = true then letM (⟨(default : ByteArray), 0, 0, (default : TCounter), (default : TLock), ([] : List THold)⟩ : TField) fun v13 => some (0, v13, 4) else letM (⟨r10.2.Name, r10.2.Kind, r10.2.Epoch, r10.2.Counter, r10.2.Lock, ([] : List THold)⟩ : TField) fun v14 => some (r3.1, v14, 0) else if (!decide (r11.1 = 0)) = true then letM (⟨(default : ByteArray), 0, 0, (default : TCounter), (default : TLock), ([] : List THold)⟩ : TField) fun v15 => some (0, v15, r11.1) else letM (⟨r10.2.Name, r10.2.Kind, r10.2.Epoch, r10.2.Counter, r10.2.Lock, ([] : List THold)⟩ : TField) fun v16 => some (r3.1, v16, 0) else if (decide (r9.2.Kind = 1)) = true then (wire_read_4 r9.1 (⟨r9.2.Name, r9.2.Kind, r9.2.Epoch, r9.2.Counter, r9.2.Lock, ([] : List THold)⟩ : TField)).bind fun r17 => (wire_vectors_2 (⟨r17.2.Name, r17.2.Kind, r17.2.Epoch, r17.2.Counter, r17.2.Lock, ([] : List THold)⟩ : TField)).bind fun r18 => (wire_vectors_3 ({ r18 with Holds := ([] : List THold) })).bind fun r19 => (slices_Concat_Vec_2 ({ r19 with Holds := ([] : List THold) })).bind fun r20 => (loopM (wire_Decode_L1) fuel (0, r20.Name, r20.Kind, r20.Epoch, r20.Counter, r20.Lock, r17.1)).bind fun x23 => if (decide (1 < r3.1)) = true then (octets_Reader_Count 16 x23.2.2.2.2.2).bind fun r30 => (loopM (wire_Decode_L3 r30) fuel (0, ([] : List THold), r30.2)).bind fun x33 => (octets_Reader_End x33.2).bind fun r36 => (gd ((decide (r36.1 = 0)) = true) (wire_Says r3.1 (⟨x23.1, x23.2.1, x23.2.2.1, x23.2.2.2.1, x23.2.2.2.2.1, x33.1⟩ : TField))).bind fun r37 => if ((decide (r36.1 = 0)) && (!r37)) = true then if (!decide (4 = 0)) = true then letM (⟨(default : ByteArray), 0, 0, (default : TCounter), (default : TLock), ([] : List THold)⟩ : TField) fun v38 => some (0, v38, 4) else letM (⟨x23.1, x23.2.1, x23.2.2.1, x23.2.2.2.1, x23.2.2.2.2.1, x33.1⟩ : TField) fun v39 => some (r3.1, v39, 0) else if (!decide (r36.1 = 0)) = true then letM (⟨(default : ByteArray), 0, 0, (default : TCounter), (default : TLock), ([] : List THold)⟩ : TField) fun v40 => some (0, v40, r36.1) else letM (⟨x23.1, x23.2.1, x23.2.2.1, x23.2.2.2.1, x23.2.2.2.2.1, x33.1⟩ : TField) fun v41 => some (r3.1, v41, 0) else (octets_Reader_End x23.2.2.2.2.2).bind fun r42 => (gd ((decide (r42.1 = 0)) = true) (wire_Says r3.1 (⟨x23.1, x23.2.1, x23.2.2.1, x23.2.2.2.1, x23.2.2.2.2.1, ([] : List THold)⟩ : TField))).bind fun r43 => if ((decide (r42.1 = 0)) && (!r43)) = true then if (!decide (4 = 0)) = true then letM (⟨(default : ByteArray), 0, 0, (default : TCounter), (default : TLock), ([] : List THold)⟩ : TField) fun v44 => some (0, v44, 4) else letM (⟨x23.1, x23.2.1, x23.2.2.1, x23.2.2.2.1, x23.2.2.2.2.1, ([] : List THold)⟩ : TField) fun v45 => some (r3.1, v45, 0) else if (!decide (r42.1 = 0)) = true then letM (⟨(default : ByteArray), 0, 0, (default : TCounter), (default : TLock), ([] : List THold)⟩ : TField) fun v46 => some (0, v46, r42.1) else letM (⟨x23.1, x23.2.1, x23.2.2.1, x23.2.2.2.1, x23.2.2.2.2.1, ([] : List THold)⟩ : TField) fun v47 => some (r3.1, v47, 0) else (octets_Reader_End r9.1).bind fun r48 => (gd ((decide (r48.1 = 0)) = true) (wire_Says r3.1 (⟨r9.2.Name, r9.2.Kind, r9.2.Epoch, r9.2.Counter, r9.2.Lock, ([] : List THold)⟩ : TField))).bind fun r49 => if ((decide (r48.1 = 0)) && (!r49)) = true then if (!decide (4 = 0)) = true then letM (⟨(default : ByteArray), 0, 0, (default : TCounter), (default : TLock), ([] : List THold)⟩ : TField) fun v50 => some (0, v50, 4) else letM (⟨r9.2.Name, r9.2.Kind, r9.2.Epoch, r9.2.Counter, r9.2.Lock, ([] : List THold)⟩ : TField) fun v51 => some (r3.1, v51, 0) else if (!decide (r48.1 = 0)) = true then letM (⟨(default : ByteArray), 0, 0, (default : TCounter), (default : TLock), ([] : List THold)⟩ : TField) fun v52 => some (0, v52, r48.1) else letM (⟨r9.2.Name, r9.2.Kind, r9.2.Epoch, r9.2.Counter, r9.2.Lock, ([] : List THold)⟩ : TField) fun v53 => some (r3.1, v53, 0) else if (decide (r7.2.Kind = 2)) = true then (wire_read_3 r8.2 (⟨r8.1, r7.2.Kind, r7.2.Epoch, r7.2.Counter, r7.2.Lock, ([] : List THold)⟩ : TField)).bind fun r54 => (octets_Reader_End r54.1).bind fun r55 => (gd ((decide (r55.1 = 0)) = true) (wire_Says r3.1 (⟨r54.2.Name, r54.2.Kind, r54.2.Epoch, r54.2.Counter, r54.2.Lock, ([] : List THold)⟩ : TField))).bind fun r56 => if ((decide (r55.1 = 0)) && (!r56)) = true then if (!decide (4 = 0)) = true then letM (⟨(default : ByteArray), 0, 0, (default : TCounter), (default : TLock), ([] : List THold)⟩ : TField) fun v57 => some (0, v57, 4) else letM (⟨r54.2.Name, r54.2.Kind, r54.2.Epoch, r54.2.Counter, r54.2.Lock, ([] : List THold)⟩ : TField) fun v58 => some (r3.1, v58, 0) else if (!decide (r55.1 = 0)) = true then letM (⟨(default : ByteArray), 0, 0, (default : TCounter), (default : TLock), ([] : List THold)⟩ : TField) fun v59 => some (0, v59, r55.1) else letM (⟨r54.2.Name, r54.2.Kind, r54.2.Epoch, r54.2.Counter, r54.2.Lock, ([] : List THold)⟩ : TField) fun v60 => some (r3.1, v60, 0) else if (decide (r7.2.Kind = 1)) = true then (wire_read_4 r8.2 (⟨r8.1, r7.2.Kind, r7.2.Epoch, r7.2.Counter, r7.2.Lock, ([] : List THold)⟩ : TField)).bind fun r61 => (wire_vectors_2 (⟨r61.2.Name, r61.2.Kind, r61.2.Epoch, r61.2.Counter, r61.2.Lock, ([] : List THold)⟩ : TField)).bind fun r62 => (wire_vectors_3 ({ r62 with Holds := ([] : List THold) })).bind fun r63 => (slices_Concat_Vec_2 ({ r63 with Holds := ([] : List THold) })).bind fun r64 => (loopM (wire_Decode_L4) fuel (0, r64.Name, r64.Kind, r64.Epoch, r64.Counter, r64.Lock, r61.1)).bind fun x67 => if (decide (1 < r3.1)) = true then (octets_Reader_Count 16 x67.2.2.2.2.2).bind fun r74 => (loopM (wire_Decode_L6 r74) fuel (0, ([] : List THold), r74.2)).bind fun x77 => (octets_Reader_End x77.2).bind fun r80 => (gd ((decide (r80.1 = 0)) = true) (wire_Says r3.1 (⟨x67.1, x67.2.1, x67.2.2.1, x67.2.2.2.1, x67.2.2.2.2.1, x77.1⟩ : TField))).bind fun r81 => if ((decide (r80.1 = 0)) && (!r81)) = true then if (!decide (4 = 0)) = true then letM (⟨(default : ByteArray), 0, 0, (default : TCounter), (default : TLock), ([] : List THold)⟩ : TField) fun v82 => some (0, v82, 4) else letM (⟨x67.1, x67.2.1, x67.2.2.1, x67.2.2.2.1, x67.2.2.2.2.1, x77.1⟩ : TField) fun v83 => some (r3.1, v83, 0) else if (!decide (r80.1 = 0)) = true then letM (⟨(default : ByteArray), 0, 0, (default : TCounter), (default : TLock), ([] : List THold)⟩ : TField) fun v84 => some (0, v84, r80.1) else letM (⟨x67.1, x67.2.1, x67.2.2.1, x67.2.2.2.1, x67.2.2.2.2.1, x77.1⟩ : TField) fun v85 => some (r3.1, v85, 0) else (octets_Reader_End x67.2.2.2.2.2).bind fun r86 => (gd ((decide (r86.1 = 0)) = true) (wire_Says r3.1 (⟨x67.1, x67.2.1, x67.2.2.1, x67.2.2.2.1, x67.2.2.2.2.1, ([] : List THold)⟩ : TField))).bind fun r87 => if ((decide (r86.1 = 0)) && (!r87)) = true then if (!decide (4 = 0)) = true then letM (⟨(default : ByteArray), 0, 0, (default : TCounter), (default : TLock), ([] : List THold)⟩ : TField) fun v88 => some (0, v88, 4) else letM (⟨x67.1, x67.2.1, x67.2.2.1, x67.2.2.2.1, x67.2.2.2.2.1, ([] : List THold)⟩ : TField) fun v89 => some (r3.1, v89, 0) else if (!decide (r86.1 = 0)) = true then letM (⟨(default : ByteArray), 0, 0, (default : TCounter), (default : TLock), ([] : List THold)⟩ : TField) fun v90 => some (0, v90, r86.1) else letM (⟨x67.1, x67.2.1, x67.2.2.1, x67.2.2.2.1, x67.2.2.2.2.1, ([] : List THold)⟩ : TField) fun v91 => some (r3.1, v91, 0) else (octets_Reader_End r8.2).bind fun r92 => (gd ((decide (r92.1 = 0)) = true) (wire_Says r3.1 (⟨r8.1, r7.2.Kind, r7.2.Epoch, r7.2.Counter, r7.2.Lock, ([] : List THold)⟩ : TField))).bind fun r93 => if ((decide (r92.1 = 0)) && (!r93)) = true then if (!decide (4 = 0)) = true then letM (⟨(default : ByteArray), 0, 0, (default : TCounter), (default : TLock), ([] : List THold)⟩ : TField) fun v94 => some (0, v94, 4) else letM (⟨r8.1, r7.2.Kind, r7.2.Epoch, r7.2.Counter, r7.2.Lock, ([] : List THold)⟩ : TField) fun v95 => some (r3.1, v95, 0) else if (!decide (r92.1 = 0)) = true then letM (⟨(default : ByteArray), 0, 0, (default : TCounter), (default : TLock), ([] : List THold)⟩ : TField) fun v96 => some (0, v96, r92.1) else letM (⟨r8.1, r7.2.Kind, r7.2.Epoch, r7.2.Counter, r7.2.Lock, ([] : List THold)⟩ : TField) fun v97 => some (r3.1, v97, 0)
def ul10_WireCuts (a1 : Int) (a2 : TField) (a3 : Int) (a4 : List Int) : Option (Bool) := (ul07_Few [a2]).bind fun r5 => letM (((!r5) || (decide ((a4.length : Int) < 1))) || (decide (20 < (a4.length : Int)))) fun v6 => if v6 = true then (ul10_awake).bind fun r7 => some r7 else (wire_Encode a1 a2).bind fun r8 => letM (((!decide (r8.2 = 0)) || (decide (a3 < 0))) || (decide ((r8.1.length : Int) ≤ a3))) fun v9 => if v9 = true then (ul10_awake).bind fun r10 => some r10 else (ssl r8.1 0 a3).bind fun l11 => (wire_Decode l11).bind fun r12 => (app 1 ([] : List Int) r8.1).bind fun l13 => (app 1 l13 a4).bind fun l14 => (wire_Decode l14).bind fun r15 => (gd (((decide (r12.2.2 = 3)) && (decide (r15.2.2 = 5))) = true) (ul10_awake)).bind fun r16 => letM (((decide (r12.2.2 = 3)) && (decide (r15.2.2 = 5))) && r16) fun v17 => some v17
end Go.Av
