/- Each function tells what its mirror tells. -/
import Derived.Test.YtakadpmjdhcckaaAvFieldKindsG1
import Derived.Test.YtakadpmjdhcckaaProg
import Derived.KernelRfl
namespace Go.Av
set_option linter.unusedSectionVars false
open Go.Proofs
set_option linter.unusedVariables false
set_option linter.unusedSimpArgs false
set_option maxHeartbeats 4000000
set_option maxRecDepth 10000
theorem C_field_lacks {a1 : TField} {a2 : Int} {a3 : Int} {r : Int} (h : field_lacks a1 a2 a3 = some r) : PureC Pg 65 [E_TField a1, (V.int .i64) a2, (V.int .i64) a3] ((V.int .i64) r) := by
  refine PureC.ofF (CallSpec.of_bodyF 23 0 fn65 rfl rfl rfl (Nat.le_of_ble_eq_true rfl) ?_) (ltL_c (ty_TField.lt _ _) (ltL_c ((TyOk.int .i64).lt _ _) (ltL_c ((TyOk.int .i64).lt _ _) ltL_nil))) ((TyOk.int .i64).lt _ _)
  replace h := Ok.of h
  unfold field_lacks at h
  refine AWp.seq ?_
  refine W.reg [0, 1] rfl ?_
  refine S.eff 3 rfl rfl (.nf (v2 := .ptr 0 [] 0) (H2 := [.cells (E_TField a1)]) (.box (lk 0 rfl rfl) rfl) rfl rfl) trivial ?_
  refine S.sil 6 rfl rfl (fun _ hF => .assign cI) ?_
  refine S.nil ?_
  refine thenQ_n ?_
  refine AWp.wk (Wk.freeze 0 rfl rfl (.same (lk 0 rfl rfl) (.cons (lk 1 rfl rfl) rfl (.ptr .nil (by first | rfl | omega)) (.same (lk 3 rfl rfl) (.same (lk 4 rfl rfl) .nil)))) (.refl _)) ?_
  refine AWp.seq ?_
  refine W.reg [0, 1, 2, 3, 4, 5, 6, 7] rfl ?_
  refine S.sil 10 rfl rfl (fun _ hF => .loadC sz33 ag33 (lk 1 rfl rfl) (ty_TField.fl a1) rfl) ?_
  refine S.sil 11 rfl rfl (fun _ hF => .move (lk 3 rfl rfl)) ?_
  obtain ⟨r4, m4, h⟩ := h.bnd
  refine S.sil 12 rfl rfl (fun _ hF => .callQ ent119 cF (.c (lk 1 rfl rfl) (V.sub.refl _) (.c (lk 0 rfl rfl) (V.sub.refl _) .nil)) (C_field_Loose m4)) ?_
  refine S.sil 9 rfl rfl (fun _ hF => .move (lk 0 rfl rfl)) ?_
  refine S.sil 13 rfl rfl (fun _ hF => .extract (lk 0 rfl rfl) rfl) ?_
  refine S.sil 14 rfl rfl (fun _ hF => .extract (lk 1 rfl rfl) rfl) ?_
  refine S.sil 7 rfl rfl (fun _ hF => .assign (lk 1 rfl rfl)) ?_
  refine S.sil 8 rfl rfl (fun _ hF => .assign (lk 1 rfl rfl)) ?_
  refine S.nil ?_
  refine thenQ_n ?_
  refine AWp.seq ?_
  refine AWp.block ?_
  refine AWp.seq ?_
  refine W.reg [0, 1, 2, 3] rfl ?_
  refine S.sil 16 rfl rfl (fun _ hF => .fieldAddrC lay33 rfl rfl (lk 9 rfl rfl) rfl (flL_c (show flen _ = 1 from rfl) flL_nil)) ?_
  refine S.sil 17 rfl rfl (fun _ hF => .loadC sz3 ag3 (lk 0 rfl rfl) rfl rfl) ?_
  refine S.sil 18 rfl rfl (fun _ hF => .neq (lk 0 rfl rfl) cI) ?_
  refine S.sil 15 rfl rfl (fun _ hF => .assign (lk 0 rfl rfl)) ?_
  refine S.nil ?_
  refine thenQ_n ?_
  refine AWp.prune (.eq (lk 0 rfl rfl) rfl (.eq (lk 5 rfl rfl) rfl (.eq (lk 12 rfl rfl) rfl (.eq (lk 15 rfl rfl) rfl .nil)))) ?_
  refine AWp.condM (lk 0 rfl rfl) h (fun c1 h => ?_) (fun c1 h => ?_)
  · skip
    refine AWp.seq ?_
    refine W.reg [0] rfl ?_
    refine S.sil 6 rfl rfl (fun _ hF => .assign cI) ?_
    refine S.nil ?_
    refine thenQ_n ?_
    refine AWp.ret ?_
    refine blockQ_r ?_
    refine thenQ_r ?_
    obtain rfl := h.ret
    exact endF1 rfl (Wk.selS [] .nil rfl (SelE.leaf (lk 0 rfl rfl) rfl (.refl _) (fun m => ((TyOk.int .i64).lt _ _)) .nil) .nil) (.tmp (lk 0 rfl rfl) rfl) rfl rfl
  · skip
    refine AWp.seq ?_
    refine W.reg [0, 1, 2, 3] rfl ?_
    refine S.sil 20 rfl rfl (fun _ hF => .move (lk 3 rfl rfl)) ?_
    refine S.sil 21 rfl rfl (fun _ hF => .move (lk 2 rfl rfl)) ?_
    refine S.sil 22 rfl rfl (fun _ hF => .gtr (lk 1 rfl rfl) (lk 0 rfl rfl)) ?_
    refine S.sil 19 rfl rfl (fun _ hF => .assign (lk 0 rfl rfl)) ?_
    refine S.nil ?_
    refine thenQ_n ?_
    refine AWp.condM (lk 0 rfl rfl) h (fun c2 h => ?_) (fun c2 h => ?_)
    · skip
      refine AWp.seq ?_
      refine W.reg [0] rfl ?_
      refine S.sil 6 rfl rfl (fun _ hF => .assign cI) ?_
      refine S.nil ?_
      refine thenQ_n ?_
      refine AWp.ret ?_
      refine blockQ_r ?_
      refine thenQ_r ?_
      obtain rfl := h.ret
      exact endF1 rfl (Wk.selS [] .nil rfl (SelE.leaf (lk 0 rfl rfl) rfl (.refl _) (fun m => ((TyOk.int .i64).lt _ _)) .nil) .nil) (.tmp (lk 0 rfl rfl) rfl) rfl rfl
    · skip
      refine AWp.skip ?_
      refine blockQ_n ?_
      refine thenQ_n ?_
      refine AWp.seq ?_
      refine W.reg [0] rfl ?_
      refine S.sil 6 rfl rfl (fun _ hF => .assign cI) ?_
      refine S.nil ?_
      refine thenQ_n ?_
      refine AWp.ret ?_
      obtain rfl := h.ret
      exact endF1 rfl (Wk.selS [] .nil rfl (SelE.leaf (lk 0 rfl rfl) rfl (.refl _) (fun m => ((TyOk.int .i64).lt _ _)) .nil) .nil) (.tmp (lk 0 rfl rfl) rfl) rfl rfl
theorem C_hold_count {a1 : Int} {r : Bool} (h : hold_count a1 = some r) : PureC Pg 157 [(V.int .i64) a1] (V.bool r) := by
  refine PureC.ofF (CallSpec.of_bodyF 9 0 fn157 rfl rfl rfl (Nat.le_of_ble_eq_true rfl) ?_) (ltL_c ((TyOk.int .i64).lt _ _) ltL_nil) (TyOk.bool.lt _ _)
  replace h := Ok.of h
  unfold hold_count at h
  refine AWp.seq ?_
  refine W.reg [0] rfl ?_
  refine S.sil 2 rfl rfl (fun _ hF => .assign cB) ?_
  refine S.nil ?_
  refine thenQ_n ?_
  refine AWp.seq ?_
  refine W.reg [0, 1, 2, 3, 4, 5, 6] rfl ?_
  refine S.sil 3 rfl rfl (fun _ hF => .move (lk 1 rfl rfl)) ?_
  refine S.sil 4 rfl rfl (fun _ hF => .geq (lk 0 rfl rfl) cI) ?_
  refine S.sil 5 rfl rfl (fun _ hF => .move (lk 0 rfl rfl)) ?_
  refine S.gsil 6 2 5 true rfl rfl rfl (lk 0 rfl rfl) (fun hB _ hF => .move (lk 4 rfl rfl)) ?_
  obtain ⟨r2, m2, h⟩ := h.bnd
  refine S.gsil 7 2 5 true rfl rfl rfl (lk 1 rfl rfl) (fun hB _ hF => .callQ ent64 cF (.c (ifT hB (lk 0 rfl rfl)) (V.sub.refl _) .nil) (C_num_Is (gd_get m2 hB))) ?_
  refine S.sil 8 rfl rfl (fun _ hF => .pickAnd (lk 2 rfl rfl) (fun h => ifT h (lk 0 rfl rfl)) cB) ?_
  obtain ⟨v3, ev3, h⟩ := h.nam
  refine S.sil 2 rfl rfl (fun _ hF => .nv (.assign (lk 0 rfl rfl)) (congrArg V.bool ev3.symm)) ?_
  refine S.nil ?_
  refine thenQ_n ?_
  refine AWp.ret ?_
  obtain rfl := h.ret
  exact endF1 rfl (Wk.selS [] .nil rfl (SelE.leaf (lk 0 rfl rfl) rfl (.refl _) (fun m => (TyOk.bool.lt _ _)) .nil) .nil) (.tmp (lk 0 rfl rfl) rfl) rfl rfl
theorem C_hold_Right {a1 : THold} {r : Bool} (h : hold_Right a1 = some r) : PureC Pg 124 [E_THold a1] (V.bool r) := by
  refine PureC.ofF (CallSpec.of_bodyF 41 0 fn124 rfl rfl rfl (Nat.le_of_ble_eq_true rfl) ?_) (ltL_c (ty_THold.lt _ _) ltL_nil) (TyOk.bool.lt _ _)
  replace h := Ok.of h
  unfold hold_Right at h
  refine AWp.seq ?_
  refine W.reg [0, 1] rfl ?_
  refine S.eff 1 rfl rfl (.nf (v2 := .ptr 0 [] 0) (H2 := [.cells (E_THold a1)]) (.box (lk 0 rfl rfl) rfl) rfl rfl) trivial ?_
  refine S.sil 2 rfl rfl (fun _ hF => .assign cB) ?_
  refine S.nil ?_
  refine thenQ_n ?_
  refine AWp.wk (Wk.freeze 0 rfl rfl (.same (lk 0 rfl rfl) (.cons (lk 1 rfl rfl) rfl (.ptr .nil (by first | rfl | omega)) .nil)) (.refl _)) ?_
  refine AWp.seq ?_
  refine W.reg [0, 1, 2, 3, 4, 5, 6, 7, 8, 9, 10, 11, 12, 13, 14, 15, 16, 17, 18, 19, 20, 21, 22, 23, 24, 25, 26, 27, 28, 29, 30, 31, 32, 33, 34, 35, 36, 37, 38] rfl ?_
  refine S.sil 3 rfl rfl (fun _ hF => .fieldAddrC lay66 rfl rfl (lk 1 rfl rfl) rfl flL_nil) ?_
  refine S.sil 4 rfl rfl (fun _ hF => .loadC sz3 ag3 (lk 0 rfl rfl) rfl rfl) ?_
  refine S.sil 5 rfl rfl (fun _ hF => .geq (lk 0 rfl rfl) cI) ?_
  refine S.sil 6 rfl rfl (fun _ hF => .move (lk 0 rfl rfl)) ?_
  refine S.gsil 7 3 6 true rfl rfl rfl (lk 0 rfl rfl) (fun hB _ hF => .fieldAddrC lay66 rfl rfl (lk 5 rfl rfl) rfl flL_nil) ?_
  refine S.gsil 8 3 6 true rfl rfl rfl (lk 1 rfl rfl) (fun hB _ hF => .loadC sz3 ag3 (ifT hB (lk 0 rfl rfl)) rfl rfl) ?_
  refine S.gsil 9 3 6 true rfl rfl rfl (lk 2 rfl rfl) (fun hB _ hF => .lss (ifT hB (lk 0 rfl rfl)) cI) ?_
  refine S.sil 10 rfl rfl (fun _ hF => .pickAnd (lk 3 rfl rfl) (fun h => ifT h (lk 0 rfl rfl)) cB) ?_
  refine S.sil 11 rfl rfl (fun _ hF => .move (lk 0 rfl rfl)) ?_
  refine S.gsil 12 8 11 true rfl rfl rfl (lk 0 rfl rfl) (fun hB _ hF => .fieldAddrC lay66 rfl rfl (lk 10 rfl rfl) rfl (flL_c (show flen _ = 1 from rfl) flL_nil)) ?_
  refine S.gsil 13 8 11 true rfl rfl rfl (lk 1 rfl rfl) (fun hB _ hF => .loadC sz3 ag3 (ifT hB (lk 0 rfl rfl)) rfl rfl) ?_
  refine S.gsil 14 8 11 true rfl rfl rfl (lk 2 rfl rfl) (fun hB _ hF => .geq (ifT hB (lk 0 rfl rfl)) cI) ?_
  obtain ⟨v2, ev2, h⟩ := h.nam
  refine S.sil 15 rfl rfl (fun _ hF => .nv (.pickAnd (lk 3 rfl rfl) (fun h => ifT h (lk 0 rfl rfl)) cB) (congrArg V.bool ev2.symm)) ?_
  refine S.sil 16 rfl rfl (fun _ hF => .move (lk 0 rfl rfl)) ?_
  refine S.gsil 17 13 16 true rfl rfl rfl (lk 0 rfl rfl) (fun hB _ hF => .fieldAddrC lay66 rfl rfl (lk 15 rfl rfl) rfl (flL_c (show flen _ = 1 from rfl) flL_nil)) ?_
  refine S.gsil 18 13 16 true rfl rfl rfl (lk 1 rfl rfl) (fun hB _ hF => .loadC sz3 ag3 (ifT hB (lk 0 rfl rfl)) rfl rfl) ?_
  obtain ⟨r3, m3, h⟩ := h.bnd
  refine S.gsil 19 13 16 true rfl rfl rfl (lk 2 rfl rfl) (fun hB _ hF => .callQ ent64 cF (.c (ifT hB (lk 0 rfl rfl)) (V.sub.refl _) .nil) (C_num_Is (gd_get m3 hB))) ?_
  refine S.sil 20 rfl rfl (fun _ hF => .pickAnd (lk 3 rfl rfl) (fun h => ifT h (lk 0 rfl rfl)) cB) ?_
  refine S.sil 21 rfl rfl (fun _ hF => .move (lk 0 rfl rfl)) ?_
  refine S.gsil 22 18 21 true rfl rfl rfl (lk 0 rfl rfl) (fun hB _ hF => .fieldAddrC lay66 rfl rfl (lk 20 rfl rfl) rfl (flL_c (show flen _ = 1 from rfl) (flL_c (show flen _ = 1 from rfl) flL_nil))) ?_
  refine S.gsil 23 18 21 true rfl rfl rfl (lk 1 rfl rfl) (fun hB _ hF => .loadC sz3 ag3 (ifT hB (lk 0 rfl rfl)) rfl rfl) ?_
  obtain ⟨r4, m4, h⟩ := h.bnd
  refine S.gsil 24 18 21 true rfl rfl rfl (lk 2 rfl rfl) (fun hB _ hF => .callQ ent157 cF (.c (ifT hB (lk 0 rfl rfl)) (V.sub.refl _) .nil) (C_hold_count (gd_get m4 hB))) ?_
  refine S.sil 25 rfl rfl (fun _ hF => .pickAnd (lk 3 rfl rfl) (fun h => ifT h (lk 0 rfl rfl)) cB) ?_
  refine S.sil 26 rfl rfl (fun _ hF => .move (lk 0 rfl rfl)) ?_
  refine S.gsil 27 23 26 true rfl rfl rfl (lk 0 rfl rfl) (fun hB _ hF => .fieldAddrC lay66 rfl rfl (lk 25 rfl rfl) rfl (flL_c (show flen _ = 1 from rfl) (flL_c (show flen _ = 1 from rfl) (flL_c (show flen _ = 1 from rfl) flL_nil)))) ?_
  refine S.gsil 28 23 26 true rfl rfl rfl (lk 1 rfl rfl) (fun hB _ hF => .loadC sz3 ag3 (ifT hB (lk 0 rfl rfl)) rfl rfl) ?_
  obtain ⟨r5, m5, h⟩ := h.bnd
  refine S.gsil 29 23 26 true rfl rfl rfl (lk 2 rfl rfl) (fun hB _ hF => .callQ ent157 cF (.c (ifT hB (lk 0 rfl rfl)) (V.sub.refl _) .nil) (C_hold_count (gd_get m5 hB))) ?_
  refine S.sil 30 rfl rfl (fun _ hF => .pickAnd (lk 3 rfl rfl) (fun h => ifT h (lk 0 rfl rfl)) cB) ?_
  refine S.sil 31 rfl rfl (fun _ hF => .move (lk 0 rfl rfl)) ?_
  refine S.gsil 32 28 31 true rfl rfl rfl (lk 0 rfl rfl) (fun hB _ hF => .fieldAddrC lay66 rfl rfl (lk 30 rfl rfl) rfl (flL_c (show flen _ = 1 from rfl) (flL_c (show flen _ = 1 from rfl) (flL_c (show flen _ = 1 from rfl) (flL_c (show flen _ = 1 from rfl) flL_nil))))) ?_
  refine S.gsil 33 28 31 true rfl rfl rfl (lk 1 rfl rfl) (fun hB _ hF => .loadC sz3 ag3 (ifT hB (lk 0 rfl rfl)) rfl rfl) ?_
  refine S.gsil 34 28 31 true rfl rfl rfl (lk 2 rfl rfl) (fun hB _ hF => .geq (ifT hB (lk 0 rfl rfl)) cI) ?_
  refine S.sil 35 rfl rfl (fun _ hF => .pickAnd (lk 3 rfl rfl) (fun h => ifT h (lk 0 rfl rfl)) cB) ?_
  refine S.sil 36 rfl rfl (fun _ hF => .move (lk 0 rfl rfl)) ?_
  refine S.gsil 37 33 36 true rfl rfl rfl (lk 0 rfl rfl) (fun hB _ hF => .fieldAddrC lay66 rfl rfl (lk 35 rfl rfl) rfl (flL_c (show flen _ = 1 from rfl) (flL_c (show flen _ = 1 from rfl) (flL_c (show flen _ = 1 from rfl) (flL_c (show flen _ = 1 from rfl) flL_nil))))) ?_
  refine S.gsil 38 33 36 true rfl rfl rfl (lk 1 rfl rfl) (fun hB _ hF => .loadC sz3 ag3 (ifT hB (lk 0 rfl rfl)) rfl rfl) ?_
  refine S.gsil 39 33 36 true rfl rfl rfl (lk 2 rfl rfl) (fun hB _ hF => .leq (ifT hB (lk 0 rfl rfl)) cI) ?_
  obtain ⟨v6, ev6, h⟩ := h.nam
  refine S.sil 40 rfl rfl (fun _ hF => .nv (.pickAnd (lk 3 rfl rfl) (fun h => ifT h (lk 0 rfl rfl)) cB) (congrArg V.bool ev6.symm)) ?_
  refine S.sil 2 rfl rfl (fun _ hF => .assign (lk 0 rfl rfl)) ?_
  refine S.nil ?_
  refine thenQ_n ?_
  refine AWp.prune (.eq (lk 0 rfl rfl) rfl .nil) ?_
  refine AWp.ret ?_
  obtain rfl := h.ret
  exact endF1 rfl (Wk.selS [] .nil rfl (SelE.leaf (lk 0 rfl rfl) rfl (.refl _) (fun m => (TyOk.bool.lt _ _)) .nil) .nil) (.tmp (lk 0 rfl rfl) rfl) rfl rfl
theorem C_hold_compare {a1 : THold} {a2 : THold} {r : Int} (h : hold_compare a1 a2 = some r) : PureC Pg 108 [E_THold a1, E_THold a2] ((V.int .i64) r) := by
  refine PureC.ofF (CallSpec.of_bodyF 32 0 fn108 rfl rfl rfl (Nat.le_of_ble_eq_true rfl) ?_) (ltL_c (ty_THold.lt _ _) (ltL_c (ty_THold.lt _ _) ltL_nil)) ((TyOk.int .i64).lt _ _)
  replace h := Ok.of h
  unfold hold_compare at h
  refine AWp.seq ?_
  refine W.reg [0, 1, 2] rfl ?_
  refine S.eff 2 rfl rfl (.nf (v2 := .ptr 0 [] 0) (H2 := [.cells (E_THold a1)]) (.box (lk 0 rfl rfl) rfl) rfl rfl) trivial ?_
  refine S.eff 3 rfl rfl (.nf (v2 := .ptr 1 [] 0) (H2 := [.cells (E_THold a1), .cells (E_THold a2)]) (.box (lk 2 rfl rfl) rfl) rfl rfl) trivial ?_
  refine S.sil 4 rfl rfl (fun _ hF => .assign cI) ?_
  refine S.nil ?_
  refine thenQ_n ?_
  refine AWp.wk (Wk.freeze 0 rfl rfl (.same (lk 0 rfl rfl) (.same (lk 1 rfl rfl) (.cons (lk 2 rfl rfl) rfl (.ptr .nil (by first | rfl | omega)) .nil))) (.refl _)) ?_
  refine AWp.wk (Wk.freeze 1 rfl rfl (.same (lk 0 rfl rfl) (.cons (lk 1 rfl rfl) rfl (.ptr .nil (by first | rfl | omega)) (.same (lk 2 rfl rfl) .nil))) (.refl _)) ?_
  refine AWp.seq ?_
  refine AWp.seq ?_
  refine W.reg [0, 1, 2, 3, 4, 5, 6, 7, 8, 9, 10, 11] rfl ?_
  refine S.sil 7 rfl rfl (fun _ hF => .fieldAddrC lay66 rfl rfl (lk 2 rfl rfl) rfl flL_nil) ?_
  refine S.sil 8 rfl rfl (fun _ hF => .loadC sz3 ag3 (lk 0 rfl rfl) rfl rfl) ?_
  refine S.sil 9 rfl rfl (fun _ hF => .fieldAddrC lay66 rfl rfl (lk 3 rfl rfl) rfl flL_nil) ?_
  refine S.sil 10 rfl rfl (fun _ hF => .loadC sz3 ag3 (lk 0 rfl rfl) rfl rfl) ?_
  refine S.sil 11 rfl rfl (fun _ hF => .buildArrL (w := E_A2_i64 (#v[a1.Replica, a2.Replica] : Vector Int 2)) arr135 zv135 (.cons (lk 2 rfl rfl) rfl rfl rfl (.cons (lk 0 rfl rfl) rfl rfl rfl .nil)) rfl rfl) ?_
  refine S.sil 12 rfl rfl (fun _ hF => .fieldAddrC lay66 rfl rfl (lk 7 rfl rfl) rfl (flL_c (show flen _ = 1 from rfl) flL_nil)) ?_
  refine S.sil 13 rfl rfl (fun _ hF => .loadC sz3 ag3 (lk 0 rfl rfl) rfl rfl) ?_
  refine S.sil 14 rfl rfl (fun _ hF => .fieldAddrC lay66 rfl rfl (lk 8 rfl rfl) rfl (flL_c (show flen _ = 1 from rfl) flL_nil)) ?_
  refine S.sil 15 rfl rfl (fun _ hF => .loadC sz3 ag3 (lk 0 rfl rfl) rfl rfl) ?_
  refine S.sil 16 rfl rfl (fun _ hF => .buildArrL (w := E_A2_i64 (#v[a1.Number, a2.Number] : Vector Int 2)) arr135 zv135 (.cons (lk 2 rfl rfl) rfl rfl rfl (.cons (lk 0 rfl rfl) rfl rfl rfl .nil)) rfl rfl) ?_
  refine S.sil 17 rfl rfl (fun _ hF => .buildArrL (w := E_A2_A2_i64 (#v[(#v[a1.Replica, a2.Replica] : Vector Int 2), (#v[a1.Number, a2.Number] : Vector Int 2)] : Vector (Vector Int 2) 2)) arr171 zv171 (.cons (lk 5 rfl rfl) rfl rfl (ty_A2_i64.fl (#v[a1.Replica, a2.Replica] : Vector Int 2)) (.cons (lk 0 rfl rfl) rfl rfl (ty_A2_i64.fl (#v[a1.Number, a2.Number] : Vector Int 2)) .nil)) rfl rfl) ?_
  refine S.sil 18 rfl rfl (fun _ hF => .move cI) ?_
  refine S.nil ?_
  refine thenQ_n ?_
  refine AWp.prune (.eq (lk 0 rfl rfl) rfl (.eq (lk 1 rfl rfl) rfl (.eq (lk 12 rfl rfl) rfl .nil))) ?_
  refine AWp.cutL (fun x5 => ⟨[(4, (V.int .i64) 0)], []⟩) nc_then h (fun q3 hq3 h => ?_) (fun x5 h => ?_)
  · refine AWp.block ?_
    refine AWp.loopT (fun s4 => ⟨[(18, (V.int .i64) s4), (17, E_A2_A2_i64 (#v[(#v[a1.Replica, a2.Replica] : Vector Int 2), (#v[a1.Number, a2.Number] : Vector Int 2)] : Vector (Vector Int 2) 2)), (4, (V.int .i64) 0)], []⟩) hq3 (Wk.selS [] (by decide) rfl (SelE.leaf (lk 0 rfl rfl) rfl (.refl _) (fun m => ((TyOk.int .i64).lt _ _)) (SelE.leaf (lk 1 rfl rfl) rfl (.refl _) (fun m => (ty_A2_A2_i64.lt _ _)) (SelE.leaf (lk 2 rfl rfl) rfl (.refl _) (fun m => ((TyOk.int .i64).lt _ _)) .nil))) .nil) (fun _ s4 h3 => ?_)
    rw [hold_compare_L1] at h3
    refine AWp.seq ?_
    refine W.reg [0] rfl ?_
    refine S.sil 19 rfl rfl (fun _ hF => .lss (lk 0 rfl rfl) cI) ?_
    refine S.nil ?_
    refine thenQ_n ?_
    refine AWp.seq ?_
    refine AWp.condM (lk 0 rfl rfl) h3 (fun c1 h3 => ?_) (fun c1 h3 => ?_)
    · skip
      refine AWp.skip ?_
      refine thenQ_n ?_
      refine AWp.seq ?_
      refine AWp.block ?_
      refine AWp.seq ?_
      refine W.reg [0, 1, 2] rfl ?_
      obtain ⟨k6, m6, h3⟩ := h3.bnd
      refine S.sil 20 rfl rfl (fun _ hF => .ixV arr171 (lk 2 rfl rfl) (lk 1 rfl rfl) m6 rfl) ?_
      refine S.eff 6 rfl rfl (.nf (v2 := .ptr 0 [] 0) (H2 := [.cells (E_A2_i64 (default : Vector Int 2))]) (.alloc zv135) rfl rfl) trivial ?_
      obtain ⟨v7, ev7, h3⟩ := h3.nam
      refine S.effN rfl rfl (.nf (H2 := [.cells (E_A2_i64 v7)]) (.storeP sz135 (lk 0 rfl rfl) (lk 1 rfl rfl) rfl (.refl _) rfl .nil (by first | rfl | omega) .nil (ty_A2_i64.fl ((#v[(#v[a1.Replica, a2.Replica] : Vector Int 2), (#v[a1.Number, a2.Number] : Vector Int 2)] : Vector (Vector Int 2) 2).get k6)) (ty_A2_i64.fl (default : Vector Int 2)) (congrArg (fun z => ([AObj.cells (E_A2_i64 z)] : List AObj)) ev7.symm)) rfl rfl) trivial ?_
      refine S.nil ?_
      refine thenQ_n ?_
      refine AWp.wk (Wk.freeze 0 rfl rfl (.cons (lk 0 rfl rfl) rfl (.ptr .nil (by first | rfl | omega)) (.same (lk 1 rfl rfl) (.same (lk 2 rfl rfl) (.same (lk 3 rfl rfl) (.same (lk 4 rfl rfl) (.same (lk 5 rfl rfl) .nil)))))) (.refl _)) ?_
      refine AWp.seq ?_
      refine W.reg [0, 1, 2, 3, 4] rfl ?_
      obtain ⟨k8, m8, h3⟩ := h3.bnd
      refine S.sil 21 rfl rfl (fun _ hF => .ixC arr135 (lk 0 rfl rfl) cI m8) ?_
      refine S.sil 22 rfl rfl (fun _ hF => .loadC sz3 ag3 (lk 0 rfl rfl) rfl rfl) ?_
      obtain ⟨k9, m9, h3⟩ := h3.bnd
      refine S.sil 23 rfl rfl (fun _ hF => .ixC arr135 (lk 2 rfl rfl) cI m9) ?_
      refine S.sil 24 rfl rfl (fun _ hF => .loadC sz3 ag3 (lk 0 rfl rfl) rfl rfl) ?_
      refine S.sil 25 rfl rfl (fun _ hF => .neq (lk 2 rfl rfl) (lk 0 rfl rfl)) ?_
      refine S.nil ?_
      refine thenQ_n ?_
      refine AWp.condM (lk 0 rfl rfl) h3 (fun c2 h3 => ?_) (fun c2 h3 => ?_)
      · skip
        refine AWp.seq ?_
        refine AWp.seq ?_
        refine W.reg [0, 1, 2, 3, 4] rfl ?_
        obtain ⟨k10, m10, h3⟩ := h3.bnd
        refine S.sil 26 rfl rfl (fun _ hF => .ixC arr135 (lk 5 rfl rfl) cI m10) ?_
        refine S.sil 27 rfl rfl (fun _ hF => .loadC sz3 ag3 (lk 0 rfl rfl) rfl rfl) ?_
        obtain ⟨k11, m11, h3⟩ := h3.bnd
        refine S.sil 28 rfl rfl (fun _ hF => .ixC arr135 (lk 7 rfl rfl) cI m11) ?_
        refine S.sil 29 rfl rfl (fun _ hF => .loadC sz3 ag3 (lk 0 rfl rfl) rfl rfl) ?_
        refine S.sil 30 rfl rfl (fun _ hF => .lss (lk 2 rfl rfl) (lk 0 rfl rfl)) ?_
        refine S.nil ?_
        refine thenQ_n ?_
        refine AWp.condM (lk 0 rfl rfl) h3 (fun c3 h3 => ?_) (fun c3 h3 => ?_)
        · skip
          refine AWp.seq ?_
          refine W.reg [0] rfl ?_
          refine S.sil 4 rfl rfl (fun _ hF => .assign cI) ?_
          refine S.nil ?_
          refine thenQ_n ?_
          refine AWp.ret ?_
          refine thenQ_r ?_
          refine blockQ_r ?_
          refine thenQ_r ?_
          refine thenQ_r ?_
          refine blockQ_r ?_
          refine thenQ_r ?_
          refine thenQ_r ?_
          have h := Ok.inrq h h3.ret
          obtain rfl := h.ret
          exact endF1 rfl (Wk.selS [] .nil rfl (SelE.leaf (lk 0 rfl rfl) rfl (.refl _) (fun m => ((TyOk.int .i64).lt _ _)) .nil) .nil) (.tmp (lk 0 rfl rfl) rfl) rfl rfl
        · skip
          refine AWp.skip ?_
          refine thenQ_n ?_
          refine AWp.seq ?_
          refine W.reg [0] rfl ?_
          refine S.sil 4 rfl rfl (fun _ hF => .assign cI) ?_
          refine S.nil ?_
          refine thenQ_n ?_
          refine AWp.ret ?_
          refine blockQ_r ?_
          refine thenQ_r ?_
          refine thenQ_r ?_
          refine blockQ_r ?_
          refine thenQ_r ?_
          refine thenQ_r ?_
          have h := Ok.inrq h h3.ret
          obtain rfl := h.ret
          exact endF1 rfl (Wk.selS [] .nil rfl (SelE.leaf (lk 0 rfl rfl) rfl (.refl _) (fun m => ((TyOk.int .i64).lt _ _)) .nil) .nil) (.tmp (lk 0 rfl rfl) rfl) rfl rfl
      · skip
        refine AWp.skip ?_
        refine blockQ_n ?_
        refine thenQ_n ?_
        refine W.reg [0, 1] rfl ?_
        refine S.sil 31 rfl rfl (fun _ hF => .add (lk 8 rfl rfl) cI) ?_
        refine S.sil 18 rfl rfl (fun _ hF => .move (lk 0 rfl rfl)) ?_
        refine S.nil ?_
        refine thenQ_n ?_
        exact ⟨_, h3.ret, (Wk.selS [] (by decide) rfl (SelE.leaf (lk 0 rfl rfl) rfl (.refl _) (fun m => ((TyOk.int .i64).lt _ _)) (SelE.leaf (lk 11 rfl rfl) rfl (.refl _) (fun m => (ty_A2_A2_i64.lt _ _)) (SelE.leaf (lk 12 rfl rfl) rfl (.refl _) (fun m => ((TyOk.int .i64).lt _ _)) .nil))) .nil)⟩
    · skip
      refine AWp.exit ?_
      refine thenQ_x ?_
      refine thenQ_x ?_
      refine blockQ_x ?_
      refine thenQ_n ?_
      exact ⟨_, h3.ret, (Wk.selS [] (by decide) rfl (SelE.leaf (lk 3 rfl rfl) rfl (.refl _) (fun m => ((TyOk.int .i64).lt _ _)) .nil) .nil)⟩
  · skip
    refine thenQ_n ?_
    refine AWp.seq ?_
    refine W.reg [0] rfl ?_
    refine S.sil 4 rfl rfl (fun _ hF => .assign cI) ?_
    refine S.nil ?_
    refine thenQ_n ?_
    refine AWp.ret ?_
    obtain rfl := h.ret
    exact endF1 rfl (Wk.selS [] .nil rfl (SelE.leaf (lk 0 rfl rfl) rfl (.refl _) (fun m => ((TyOk.int .i64).lt _ _)) .nil) .nil) (.tmp (lk 0 rfl rfl) rfl) rfl rfl
theorem C_hold_Rights {a1 : List THold} {r : Bool} (h : hold_Rights a1 = some r) : PureC Pg 76 [.sl 5 .no (List.map E_THold a1)] (V.bool r) := by
  refine PureC.ofF (CallSpec.of_bodyF 33 0 fn76 rfl rfl rfl (Nat.le_of_ble_eq_true rfl) ?_) (ltL_c (lt_sl rfl (ty_THold.ltm _ _)) ltL_nil) (TyOk.bool.lt _ _)
  replace h := Ok.of h
  unfold hold_Rights at h
  refine AWp.seq ?_
  refine W.reg [0] rfl ?_
  refine S.sil 2 rfl rfl (fun _ hF => .assign cB) ?_
  refine S.nil ?_
  refine thenQ_n ?_
  refine AWp.seq ?_
  refine AWp.seq ?_
  refine W.reg [0, 1, 2] rfl ?_
  refine S.sil 5 rfl rfl (fun _ hF => .move (lk 1 rfl rfl)) ?_
  refine S.sil 6 rfl rfl (fun _ hF => .lenT sli31 (lk 0 rfl rfl) (vsub rfl (.refl _))) ?_
  refine S.sil 7 rfl rfl (fun _ hF => .move cI) ?_
  refine S.nil ?_
  refine thenQ_n ?_
  refine AWp.cutL (fun x4 => ⟨[(2, V.bool false), (0, .sl 5 .no (List.map E_THold a1))], []⟩) nc_then h (fun q2 hq2 h => ?_) (fun x4 h => ?_)
  · refine AWp.block ?_
    refine AWp.loopT (fun s3 => ⟨[(7, (V.int .i64) s3), (6, (V.int .i64) (a1.length : Int)), (5, .sl 5 .no (List.map E_THold a1)), (2, V.bool false), (0, .sl 5 .no (List.map E_THold a1))], []⟩) hq2 (Wk.selS [] (by decide) rfl (SelE.leaf (lk 0 rfl rfl) rfl (.refl _) (fun m => ((TyOk.int .i64).lt _ _)) (SelE.leaf (lk 1 rfl rfl) rfl (.refl _) (fun m => ((TyOk.int .i64).lt _ _)) (SelE.leaf (lk 2 rfl rfl) rfl (.refl _) (fun m => (lt_sl rfl (ty_THold.ltm _ _))) (SelE.leaf (lk 3 rfl rfl) rfl (.refl _) (fun m => (TyOk.bool.lt _ _)) (SelE.leaf (lk 4 rfl rfl) rfl (.refl _) (fun m => (lt_sl rfl (ty_THold.ltm _ _))) .nil))))) .nil) (fun _ s3 h2 => ?_)
    rw [hold_Rights_L1] at h2
    refine AWp.seq ?_
    refine W.reg [0] rfl ?_
    refine S.sil 8 rfl rfl (fun _ hF => .lss (lk 0 rfl rfl) (lk 1 rfl rfl)) ?_
    refine S.nil ?_
    refine thenQ_n ?_
    refine AWp.seq ?_
    refine AWp.condM (lk 0 rfl rfl) h2 (fun c1 h2 => ?_) (fun c1 h2 => ?_)
    · skip
      refine AWp.skip ?_
      refine thenQ_n ?_
      refine AWp.seq ?_
      refine AWp.block ?_
      refine AWp.seq ?_
      refine W.reg [0, 1, 2, 3, 4, 5] rfl ?_
      refine S.sil 9 rfl rfl (fun _ hF => .move (lk 1 rfl rfl)) ?_
      obtain ⟨j5, m5, h2⟩ := h2.bnd
      refine S.sil 10 rfl rfl (fun _ hF => .ixS sli31 (lk 4 rfl rfl) (lk 2 rfl rfl) m5) ?_
      obtain ⟨v6, ev6, h2⟩ := h2.nam
      refine S.sil 11 rfl rfl (fun _ hF => .nv (.loadC sz66 ag66 (lk 0 rfl rfl) (ty_THold.fl (a1.getD j5 default)) rfl) (congrArg E_THold ev6.symm)) ?_
      refine S.eff 4 rfl rfl (.nf (v2 := .ptr 0 [] 0) (H2 := [.cells (E_THold (default : THold))]) (.alloc zv66) rfl rfl) trivial ?_
      refine S.sil 3 rfl rfl (fun _ hF => .assign (lk 3 rfl rfl)) ?_
      refine S.effN rfl rfl (.nf (H2 := [.cells (E_THold v6)]) (.storeP sz66 (lk 1 rfl rfl) (lk 2 rfl rfl) rfl (.refl _) rfl .nil (by first | rfl | omega) .nil (ty_THold.fl v6) (ty_THold.fl (default : THold)) rfl) rfl rfl) trivial ?_
      refine S.nil ?_
      refine thenQ_n ?_
      refine AWp.wk (Wk.freeze 0 rfl rfl (.same (lk 0 rfl rfl) (.cons (lk 1 rfl rfl) rfl (.ptr .nil (by first | rfl | omega)) (.same (lk 2 rfl rfl) (.same (lk 3 rfl rfl) (.same (lk 4 rfl rfl) (.same (lk 5 rfl rfl) (.same (lk 6 rfl rfl) (.same (lk 7 rfl rfl) (.same (lk 8 rfl rfl) (.same (lk 9 rfl rfl) (.same (lk 10 rfl rfl) .nil))))))))))) (.refl _)) ?_
      refine AWp.seq ?_
      refine W.regD [0, 1, 2, 3, 4, 5, 6, 7, 8, 9, 10, 11, 12, 13, 14, 15, 16] mixed ?_
      refine S.sil 12 rfl rfl (fun _ hF => .loadC sz66 ag66 (lk 1 rfl rfl) (ty_THold.fl v6) rfl) ?_
      obtain ⟨r7, m7, h2⟩ := h2.bnd
      refine S.sil 13 rfl rfl (fun _ hF => .callQ ent124 cF (.c (lk 0 rfl rfl) (V.sub.refl _) .nil) (C_hold_Right m7)) ?_
      refine S.sil 14 rfl rfl (fun _ hF => .not (lk 0 rfl rfl)) ?_
      refine S.sil 15 rfl rfl (fun _ hF => .move (lk 0 rfl rfl)) ?_
      refine S.gsil 16 3 15 false rfl rfl rfl (lk 0 rfl rfl) (fun hB _ hF => .move (lk 4 rfl rfl)) ?_
      refine S.gsil 17 3 15 false rfl rfl rfl (lk 1 rfl rfl) (fun hB _ hF => .gtr (ifT hB (lk 0 rfl rfl)) cI) ?_
      refine S.gsil 18 3 15 false rfl rfl rfl (lk 2 rfl rfl) (fun hB _ hF => .move (ifT hB (lk 0 rfl rfl))) ?_
      refine S.gsil2 19 6 18 true rfl rfl rfl (lk 0 rfl rfl) (fun hB _ hF => .move (lk 17 rfl rfl)) ?_
      refine S.gsil2 20 6 18 true rfl rfl rfl (lk 1 rfl rfl) (fun hB _ hF => .move (lk 8 rfl rfl)) ?_
      refine S.gsil2 21 6 18 true rfl rfl rfl (lk 2 rfl rfl) (fun hB _ hF => .sub (ifT hB (lk 0 rfl rfl)) cI) ?_
      obtain ⟨j8, m8, h2⟩ := h2.bnd
      refine S.gsil2 22 6 18 true rfl rfl rfl (lk 3 rfl rfl) (fun hB _ hF => .ixS sli31 (ifT hB (lk 2 rfl rfl)) (ifT hB (lk 0 rfl rfl)) (gd_get m8 hB)) ?_
      refine S.gsil2 23 6 18 true rfl rfl rfl (lk 4 rfl rfl) (fun hB _ hF => .loadC sz66 ag66 (ifT hB (lk 0 rfl rfl)) (ty_THold.fl (a1.getD j8 default)) rfl) ?_
      refine S.gsil2 24 6 18 true rfl rfl rfl (lk 5 rfl rfl) (fun hB _ hF => .loadC sz66 ag66 (lk 13 rfl rfl) (ty_THold.fl v6) rfl) ?_
      obtain ⟨r9, m9, h2⟩ := h2.bnd
      refine S.gsil2 25 6 18 true rfl rfl rfl (lk 6 rfl rfl) (fun hB _ hF => .callQ ent108 cF (.c (ifT hB (lk 1 rfl rfl)) (V.sub.refl _) (.c (ifT hB (lk 0 rfl rfl)) (V.sub.refl _) .nil)) (C_hold_compare (gd_get m9 hB))) ?_
      refine S.gsil2 26 6 18 true rfl rfl rfl (lk 7 rfl rfl) (fun hB _ hF => .geq (ifT hB (lk 0 rfl rfl)) cI) ?_
      refine S.gsil 27 3 15 false rfl rfl rfl (lk 11 rfl rfl) (fun hB _ hF => .pickAnd (ifT hB (lk 8 rfl rfl)) (fun h => ifT ⟨hB, h⟩ (lk 0 rfl rfl)) cB) ?_
      refine S.sil 28 rfl rfl (fun _ hF => .pickOr (lk 12 rfl rfl) cB (fun h => ifT h (lk 0 rfl rfl))) ?_
      refine S.nilD (by kernel_rfl) ?_
      refine thenQ_n ?_
      refine AWp.prune (.eq (lk 0 rfl rfl) rfl (.eq (lk 13 rfl rfl) rfl (.eq (lk 14 rfl rfl) rfl (.eq (lk 15 rfl rfl) rfl (.eq (lk 16 rfl rfl) rfl (.eq (lk 17 rfl rfl) rfl (.eq (lk 18 rfl rfl) rfl (.eq (lk 19 rfl rfl) rfl (.eq (lk 20 rfl rfl) rfl (.eq (lk 21 rfl rfl) rfl (.eq (lk 22 rfl rfl) rfl (.eq (lk 23 rfl rfl) rfl (.eq (lk 24 rfl rfl) rfl (.eq (lk 25 rfl rfl) rfl (.eq (lk 26 rfl rfl) rfl (.eq (lk 27 rfl rfl) rfl .nil)))))))))))))))) ?_
      refine AWp.condM (lk 0 rfl rfl) h2 (fun c2 h2 => ?_) (fun c2 h2 => ?_)
      · skip
        refine AWp.seq ?_
        refine W.reg [0] rfl ?_
        refine S.sil 2 rfl rfl (fun _ hF => .assign cB) ?_
        refine S.nil ?_
        refine thenQ_n ?_
        refine AWp.ret ?_
        refine blockQ_r ?_
        refine thenQ_r ?_
        refine thenQ_r ?_
        refine blockQ_r ?_
        refine thenQ_r ?_
        refine thenQ_r ?_
        have h := Ok.inrq h h2.ret
        obtain rfl := h.ret
        exact endF1 rfl (Wk.selS [] .nil rfl (SelE.leaf (lk 0 rfl rfl) rfl (.refl _) (fun m => (TyOk.bool.lt _ _)) .nil) .nil) (.tmp (lk 0 rfl rfl) rfl) rfl rfl
      · skip
        refine AWp.skip ?_
        refine blockQ_n ?_
        refine thenQ_n ?_
        refine W.reg [0, 1] rfl ?_
        refine S.sil 29 rfl rfl (fun _ hF => .add (lk 11 rfl rfl) cI) ?_
        refine S.sil 7 rfl rfl (fun _ hF => .move (lk 0 rfl rfl)) ?_
        refine S.nil ?_
        refine thenQ_n ?_
        exact ⟨_, h2.ret, (Wk.selS [] (by decide) rfl (SelE.leaf (lk 0 rfl rfl) rfl (.refl _) (fun m => ((TyOk.int .i64).lt _ _)) (SelE.leaf (lk 14 rfl rfl) rfl (.refl _) (fun m => ((TyOk.int .i64).lt _ _)) (SelE.leaf (lk 15 rfl rfl) rfl (.refl _) (fun m => (lt_sl rfl (ty_THold.ltm _ _))) (SelE.leaf (lk 16 rfl rfl) rfl (.refl _) (fun m => (TyOk.bool.lt _ _)) (SelE.leaf (lk 17 rfl rfl) rfl (.refl _) (fun m => (lt_sl rfl (ty_THold.ltm _ _))) .nil))))) .nil)⟩
    · skip
      refine AWp.exit ?_
      refine thenQ_x ?_
      refine thenQ_x ?_
      refine blockQ_x ?_
      refine thenQ_n ?_
      exact ⟨_, h2.ret, (Wk.selS [] (by decide) rfl (SelE.leaf (lk 4 rfl rfl) rfl (.refl _) (fun m => (TyOk.bool.lt _ _)) (SelE.leaf (lk 5 rfl rfl) rfl (.refl _) (fun m => (lt_sl rfl (ty_THold.ltm _ _))) .nil)) .nil)⟩
  · skip
    refine thenQ_n ?_
    refine AWp.seq ?_
    refine W.reg [0, 1, 2, 3] rfl ?_
    refine S.sil 30 rfl rfl (fun _ hF => .move (lk 1 rfl rfl)) ?_
    refine S.sil 31 rfl rfl (fun _ hF => .lenT sli31 (lk 0 rfl rfl) (vsub rfl (.refl _))) ?_
    refine S.sil 32 rfl rfl (fun _ hF => .leq (lk 0 rfl rfl) cI) ?_
    obtain ⟨v10, ev10, h⟩ := h.nam
    refine S.sil 2 rfl rfl (fun _ hF => .nv (.assign (lk 0 rfl rfl)) (congrArg V.bool ev10.symm)) ?_
    refine S.nil ?_
    refine thenQ_n ?_
    refine AWp.ret ?_
    obtain rfl := h.ret
    exact endF1 rfl (Wk.selS [] .nil rfl (SelE.leaf (lk 0 rfl rfl) rfl (.refl _) (fun m => (TyOk.bool.lt _ _)) .nil) .nil) (.tmp (lk 0 rfl rfl) rfl) rfl rfl
theorem C_cloneO_38 {a1 : List THold} {r : List THold} (h : app 40 [] a1 = some r) : CallSpec Pg 38 [E_S_THold a1] [] fun o H' => o = .ret (.slo 5 0 [] 0 0 r.length 1) ∧ H' = [.buf 5 (List.map E_THold r)] := by
  refine CallSpec.of_bodyF 8 0 fn38 rfl rfl rfl (Nat.le_of_ble_eq_true rfl) ?_
  have hr := (app_get h).2
  refine AWp.seq ?_
  refine W.reg [0] rfl ?_
  refine S.sil 2 rfl rfl (fun _ hF => .assign cNs) ?_
  refine S.nil ?_
  refine thenQ_n ?_
  refine AWp.splitNil (t := 0) (lk 1 rfl rfl) (fun hn => ?_) ?_
  · obtain rfl : a1 = [] := List.map_eq_nil_iff.1 hn
    obtain rfl : r = [] := by simpa using hr
    refine AWp.seq ?_
    refine AWp.seq ?_
    refine W.reg [0, 1] rfl ?_
    refine S.sil 3 rfl rfl (fun _ hF => .move (lk 0 rfl rfl)) ?_
    refine S.sil 4 rfl rfl (fun _ hF => .eqlNil sli31 (lk 0 rfl rfl) cNs) ?_
    refine S.nil ?_
    refine thenQ_n ?_
    refine AWp.condT (lk 0 rfl rfl) ?_
    refine AWp.seq ?_
    refine W.reg [0] rfl ?_
    refine S.sil 2 rfl rfl (fun _ hF => .assign cNs) ?_
    refine S.nil ?_
    refine thenQ_n ?_
    refine AWp.ret ?_
    refine thenQ_r ?_
    refine endF_wk (Wk.nilbuf 5 (lk 0 rfl rfl)) ?_
    exact endF1 rfl (Wk.selS [0] (by decide) rfl (SelE.spec (lk 0 rfl rfl) rfl (.refl _) rfl rfl .nil) (.cons rfl rfl (ASub.refl _) .nil)) (.tmp (lk 0 rfl rfl) rfl) rfl rfl
  · refine AWp.seq ?_
    refine AWp.seq ?_
    refine W.reg [0, 1] rfl ?_
    refine S.sil 3 rfl rfl (fun _ hF => .move (lk 0 rfl rfl)) ?_
    refine S.sil 4 rfl rfl (fun _ hF => .eqlNn sli31 (lk 0 rfl rfl) cNs) ?_
    refine S.nil ?_
    refine thenQ_n ?_
    refine AWp.condF (lk 0 rfl rfl) ?_
    refine AWp.skip ?_
    refine thenQ_n ?_
    refine AWp.seq ?_
    refine W.reg [0, 1, 2, 3] rfl ?_
    refine S.sil 5 rfl rfl (fun _ hF => .buildSliceW sli31 zv66 rfl rfl (by decide) .nil) ?_
    refine S.sil 6 rfl rfl (fun _ hF => .move (lk 3 rfl rfl)) ?_
    refine S.new 7 rfl rfl (.appNewT sli31 und31 zv66 rfl (by decide) (lk 1 rfl rfl) (V.sub.refl _) (lk 0 rfl rfl) Rd.sl h rfl) trivial ?_
    refine S.sil 2 rfl rfl (fun _ hF => .assign (lk 0 rfl rfl)) ?_
    refine S.nil ?_
    refine thenQ_n ?_
    refine AWp.ret ?_
    exact endF1 rfl (Wk.selS [0] (by decide) rfl (SelE.spec (lk 0 rfl rfl) rfl (.refl _) rfl rfl .nil) (.cons (lt_buf ty_THold) rfl ⟨rfl, RSubL.leafr ty_THold _ rfl⟩ .nil)) (.tmp (lk 0 rfl rfl) rfl) rfl rfl
end Go.Av
namespace Go.Proofs
open Go.Shelf in
def Try.sort107_ren : Go.Shelf.Ren := ⟨fun | 6 => 107 | 15 => 102 | 14 => 150 | 28 => 145 | 29 => 146 | 20 => 173 | 21 => 174 | 22 => 175 | 23 => 176 | 24 => 177 | 25 => 178 | 26 => 179 | 27 => 180 | 46 => 184 | 47 => 169 | 48 => 170 | 49 => 185 | 50 => 186 | 57 => 189 | n => n, fun | 22 => 31 | 24 => 66 | 25 => 137 | 3 => 3 | 39 => 130 | 0 => 0 | 53 => 164 | 55 => 166 | 4 => 4 | 46 => 158 | 45 => 157 | 50 => 85 | 5 => 5 | 9 => 9 | 66 => 181 | 70 => 185 | 76 => 193 | 77 => 145 | n => n, fun | n => n⟩
open Go.Shelf in
theorem Try.sort107 : Go.Proofs.SlLaysF0.n6 Try.prog Try.sort107_ren := {
  mixed := by kernel_rfl
  f6 := ⟨Try.f107.name, by decide, Try.func107.trans (congrArg some (by kernel_rfl))⟩
  f14 := ⟨Try.f150.name, by decide, Try.func150.trans (congrArg some (by kernel_rfl))⟩
  f15 := Try.func102.trans (congrArg some (by kernel_rfl))
  f20 := ⟨Try.f173.name, by decide, Try.func173.trans (congrArg some (by kernel_rfl))⟩
  f21 := ⟨Try.f174.name, by decide, Try.func174.trans (congrArg some (by kernel_rfl))⟩
  f22 := ⟨Try.f175.name, by decide, Try.func175.trans (congrArg some (by kernel_rfl))⟩
  f23 := ⟨Try.f176.name, by decide, Try.func176.trans (congrArg some (by kernel_rfl))⟩
  f24 := ⟨Try.f177.name, by decide, Try.func177.trans (congrArg some (by kernel_rfl))⟩
  f25 := ⟨Try.f178.name, by decide, Try.func178.trans (congrArg some (by kernel_rfl))⟩
  f26 := ⟨Try.f179.name, by decide, Try.func179.trans (congrArg some (by kernel_rfl))⟩
  f27 := ⟨Try.f180.name, by decide, Try.func180.trans (congrArg some (by kernel_rfl))⟩
  f28 := Try.func145.trans (congrArg some (by kernel_rfl))
  f29 := Try.func146.trans (congrArg some (by kernel_rfl))
  f46 := ⟨Try.f184.name, by decide, Try.func184.trans (congrArg some (by kernel_rfl))⟩
  f47 := Try.func169.trans (congrArg some (by kernel_rfl))
  f48 := Try.func170.trans (congrArg some (by kernel_rfl))
  f49 := ⟨Try.f185.name, by decide, Try.func185.trans (congrArg some (by kernel_rfl))⟩
  f50 := ⟨Try.f186.name, by decide, Try.func186.trans (congrArg some (by kernel_rfl))⟩
  f57 := ⟨Try.f189.name, by decide, Try.func189.trans (congrArg some (by kernel_rfl))⟩
  t0 := Try.underlying0
  a0 := Try.isAgg0
  z0 := Try.sizeOf0
  v0 := Try.zeroValue0
  t3 := Try.underlying3
  a3 := Try.isAgg3
  z3 := Try.sizeOf3
  v3 := Try.zeroValue3
  t4 := Try.underlying4
  a4 := Try.isAgg4
  z4 := Try.sizeOf4
  v4 := Try.zeroValue4
  t5 := Try.underlying5
  a5 := Try.isAgg5
  z5 := Try.sizeOf5
  v5 := Try.zeroValue5
  t9 := Try.underlying9
  a9 := Try.isAgg9
  z9 := Try.sizeOf9
  v9 := Try.zeroValue9
  t22 := Try.underlying31
  a22 := Try.isAgg31
  z22 := Try.sizeOf31
  v22 := Try.zeroValue31
  t25 := Try.underlying137
  a25 := Try.isAgg137
  z25 := Try.sizeOf137
  v25 := Try.zeroValue137
  t39 := Try.underlying130
  a39 := Try.isAgg130
  z39 := Try.sizeOf130
  v39 := Try.zeroValue130
  t45 := Try.underlying157
  a45 := Try.isAgg157
  z45 := Try.sizeOf157
  v45 := Try.zeroValue157
  t46 := Try.underlying158
  a46 := Try.isAgg158
  z46 := Try.sizeOf158
  v46 := Try.zeroValue158
  t50 := Try.underlying85
  a50 := Try.isAgg85
  z50 := Try.sizeOf85
  v50 := Try.zeroValue85
  t53 := Try.underlying164
  a53 := Try.isAgg164
  z53 := Try.sizeOf164
  v53 := Try.zeroValue164
  t55 := Try.underlying166
  a55 := Try.isAgg166
  z55 := Try.sizeOf166
  v55 := Try.zeroValue166
  t66 := Try.underlying181
  a66 := Try.isAgg181
  z66 := Try.sizeOf181
  v66 := Try.zeroValue181
  t70 := Try.underlying185
  a70 := Try.isAgg185
  z70 := Try.sizeOf185
  v70 := Try.zeroValue185
  t76 := Try.underlying193
  a76 := Try.isAgg193
  z76 := Try.sizeOf193
  v76 := Try.zeroValue193
  t77 := Try.underlying145
  a77 := Try.isAgg145
  z77 := Try.sizeOf145
  v77 := Try.zeroValue145 }
end Go.Proofs
namespace Go.Av
open Go.Proofs
theorem srt107 : Go.Proofs.SlLaysF0.n6 Pg Go.Proofs.Try.sort107_ren := by rw [Pg_eq]; exact Go.Proofs.Try.sort107
theorem C_hold_Reserve {a1 : List THold} {a2 : Int} {a3 : Int} {a4 : Int} {r : (List THold) × Int × Int} (h : hold_Reserve a1 a2 a3 a4 = some r) : PureC Pg 70 [.sl 5 .no (List.map E_THold a1), (V.int .i64) a2, (V.int .i64) a3, (V.int .i64) a4] (.tup [E_S_THold r.1, (V.int .i64) r.2.1, (V.int .i64) r.2.2]) := by
  refine PureC.ofF (CallSpec.of_bodyF 59 0 fn70 rfl rfl rfl (Nat.le_of_ble_eq_true rfl) ?_) (ltL_c (lt_sl rfl (ty_THold.ltm _ _)) (ltL_c ((TyOk.int .i64).lt _ _) (ltL_c ((TyOk.int .i64).lt _ _) (ltL_c ((TyOk.int .i64).lt _ _) ltL_nil)))) (lt_tup (ltL_c (ty_S_THold.lt _ _) (ltL_c ((TyOk.int .i64).lt _ _) (ltL_c ((TyOk.int .i64).lt _ _) ltL_nil))))
  replace h := Ok.of h
  unfold hold_Reserve at h
  refine AWp.seq ?_
  refine W.reg [0, 1, 2] rfl ?_
  refine S.sil 8 rfl rfl (fun _ hF => .assign cNs) ?_
  refine S.sil 9 rfl rfl (fun _ hF => .assign cI) ?_
  refine S.sil 10 rfl rfl (fun _ hF => .assign cI) ?_
  refine S.nil ?_
  refine thenQ_n ?_
  refine AWp.seq ?_
  refine W.reg [0] rfl ?_
  refine S.sil 11 rfl rfl (fun _ hF => .assign cI) ?_
  refine S.nil ?_
  refine thenQ_n ?_
  refine AWp.seq ?_
  refine AWp.seq ?_
  refine W.reg [0, 1, 2] rfl ?_
  refine S.sil 16 rfl rfl (fun _ hF => .move (lk 4 rfl rfl)) ?_
  refine S.sil 17 rfl rfl (fun _ hF => .lenT sli31 (lk 0 rfl rfl) (vsub rfl (.refl _))) ?_
  refine S.sil 18 rfl rfl (fun _ hF => .move cI) ?_
  refine S.nil ?_
  refine thenQ_n ?_
  refine AWp.cutX (fun x7 => ⟨[(11, (V.int .i64) x7), (10, (V.int .i64) 0), (9, (V.int .i64) 0), (8, .nils), (0, .sl 5 .no (List.map E_THold a1)), (1, (V.int .i64) a2), (2, (V.int .i64) a3), (3, (V.int .i64) a4)], []⟩) nc_then h (fun q5 hq5 => ?_) (fun x7 h => ?_)
  · refine AWp.block ?_
    refine AWp.loopT (fun s6 => ⟨[(18, (V.int .i64) s6.1), (17, (V.int .i64) (a1.length : Int)), (16, .sl 5 .no (List.map E_THold a1)), (11, (V.int .i64) s6.2), (10, (V.int .i64) 0), (9, (V.int .i64) 0), (8, .nils), (0, .sl 5 .no (List.map E_THold a1)), (1, (V.int .i64) a2), (2, (V.int .i64) a3), (3, (V.int .i64) a4)], []⟩) hq5 (Wk.selS [] (by decide) rfl (SelE.leaf (lk 0 rfl rfl) rfl (.refl _) (fun m => ((TyOk.int .i64).lt _ _)) (SelE.leaf (lk 1 rfl rfl) rfl (.refl _) (fun m => ((TyOk.int .i64).lt _ _)) (SelE.leaf (lk 2 rfl rfl) rfl (.refl _) (fun m => (lt_sl rfl (ty_THold.ltm _ _))) (SelE.leaf (lk 3 rfl rfl) rfl (.refl _) (fun m => ((TyOk.int .i64).lt _ _)) (SelE.leaf (lk 4 rfl rfl) rfl (.refl _) (fun m => ((TyOk.int .i64).lt _ _)) (SelE.leaf (lk 5 rfl rfl) rfl (.refl _) (fun m => ((TyOk.int .i64).lt _ _)) (SelE.leaf (lk 6 rfl rfl) rfl (.refl _) (fun m => rfl) (SelE.leaf (lk 7 rfl rfl) rfl (.refl _) (fun m => (lt_sl rfl (ty_THold.ltm _ _))) (SelE.leaf (lk 8 rfl rfl) rfl (.refl _) (fun m => ((TyOk.int .i64).lt _ _)) (SelE.leaf (lk 9 rfl rfl) rfl (.refl _) (fun m => ((TyOk.int .i64).lt _ _)) (SelE.leaf (lk 10 rfl rfl) rfl (.refl _) (fun m => ((TyOk.int .i64).lt _ _)) .nil))))))))))) .nil) (fun _ s6 h5 => ?_)
    rw [hold_Reserve_L1] at h5
    refine AWp.seq ?_
    refine W.reg [0] rfl ?_
    refine S.sil 19 rfl rfl (fun _ hF => .lss (lk 0 rfl rfl) (lk 1 rfl rfl)) ?_
    refine S.nil ?_
    refine thenQ_n ?_
    refine AWp.seq ?_
    refine AWp.condM (lk 0 rfl rfl) h5 (fun c1 h5 => ?_) (fun c1 h5 => ?_)
    · skip
      refine AWp.skip ?_
      refine thenQ_n ?_
      refine AWp.seq ?_
      refine AWp.block ?_
      refine AWp.seq ?_
      refine W.reg [0, 1, 2, 3] rfl ?_
      obtain ⟨j8, m8, h5⟩ := h5.bnd
      refine S.sil 20 rfl rfl (fun _ hF => .ixS sli31 (lk 3 rfl rfl) (lk 1 rfl rfl) m8) ?_
      obtain ⟨v9, ev9, h5⟩ := h5.nam
      refine S.sil 21 rfl rfl (fun _ hF => .nv (.loadC sz66 ag66 (lk 0 rfl rfl) (ty_THold.fl (a1.getD j8 default)) rfl) (congrArg E_THold ev9.symm)) ?_
      refine S.eff 13 rfl rfl (.nf (v2 := .ptr 0 [] 0) (H2 := [.cells (E_THold (default : THold))]) (.alloc zv66) rfl rfl) trivial ?_
      refine S.effN rfl rfl (.nf (H2 := [.cells (E_THold v9)]) (.storeP sz66 (lk 0 rfl rfl) (lk 1 rfl rfl) rfl (.refl _) rfl .nil (by first | rfl | omega) .nil (ty_THold.fl v9) (ty_THold.fl (default : THold)) rfl) rfl rfl) trivial ?_
      refine S.nil ?_
      refine thenQ_n ?_
      refine AWp.wk (Wk.freeze 0 rfl rfl (.cons (lk 0 rfl rfl) rfl (.ptr .nil (by first | rfl | omega)) (.same (lk 1 rfl rfl) (.same (lk 2 rfl rfl) (.same (lk 3 rfl rfl) (.same (lk 4 rfl rfl) (.same (lk 5 rfl rfl) (.same (lk 6 rfl rfl) (.same (lk 7 rfl rfl) (.same (lk 8 rfl rfl) (.same (lk 9 rfl rfl) (.same (lk 10 rfl rfl) (.same (lk 11 rfl rfl) (.same (lk 12 rfl rfl) (.same (lk 13 rfl rfl) (.same (lk 14 rfl rfl) .nil))))))))))))))) (.refl _)) ?_
      refine AWp.seq ?_
      refine W.reg [0, 1, 2, 3] rfl ?_
      refine S.sil 22 rfl rfl (fun _ hF => .fieldAddrC lay66 rfl rfl (lk 0 rfl rfl) rfl flL_nil) ?_
      refine S.sil 23 rfl rfl (fun _ hF => .loadC sz3 ag3 (lk 0 rfl rfl) rfl rfl) ?_
      refine S.sil 24 rfl rfl (fun _ hF => .move (lk 14 rfl rfl)) ?_
      refine S.sil 25 rfl rfl (fun _ hF => .eql (lk 1 rfl rfl) (lk 0 rfl rfl)) ?_
      refine S.nil ?_
      refine thenQ_n ?_
      refine AWp.condM (lk 0 rfl rfl) h5 (fun c2 h5 => ?_) (fun c2 h5 => ?_)
      · skip
        refine W.reg [0, 1, 2, 3, 4, 5] rfl ?_
        refine S.sil 26 rfl rfl (fun _ hF => .move (lk 11 rfl rfl)) ?_
        refine S.sil 27 rfl rfl (fun _ hF => .fieldAddrC lay66 rfl rfl (lk 5 rfl rfl) rfl (flL_c (show flen _ = 1 from rfl) flL_nil)) ?_
        refine S.sil 28 rfl rfl (fun _ hF => .loadC sz3 ag3 (lk 0 rfl rfl) rfl rfl) ?_
        refine S.sil 29 rfl rfl (fun _ hF => .add (lk 0 rfl rfl) cI) ?_
        refine S.sil 30 rfl rfl (fun _ hF => .bmax (lk 3 rfl rfl) (lk 0 rfl rfl)) ?_
        obtain ⟨v10, ev10, h5⟩ := h5.nam
        refine S.sil 11 rfl rfl (fun _ hF => .nv (.assign (lk 0 rfl rfl)) (congrArg (V.int .i64) ev10.symm)) ?_
        refine S.nil ?_
        refine blockQ_n ?_
        refine thenQ_n ?_
        refine W.reg [0, 1] rfl ?_
        refine S.sil 31 rfl rfl (fun _ hF => .add (lk 14 rfl rfl) cI) ?_
        refine S.sil 18 rfl rfl (fun _ hF => .move (lk 0 rfl rfl)) ?_
        refine S.nil ?_
        refine thenQ_n ?_
        exact ⟨_, h5.ret, (Wk.selS [] (by decide) rfl (SelE.leaf (lk 0 rfl rfl) rfl (.refl _) (fun m => ((TyOk.int .i64).lt _ _)) (SelE.leaf (lk 17 rfl rfl) rfl (.refl _) (fun m => ((TyOk.int .i64).lt _ _)) (SelE.leaf (lk 18 rfl rfl) rfl (.refl _) (fun m => (lt_sl rfl (ty_THold.ltm _ _))) (SelE.leaf (lk 2 rfl rfl) rfl (.refl _) (fun m => ((TyOk.int .i64).lt _ _)) (SelE.leaf (lk 20 rfl rfl) rfl (.refl _) (fun m => ((TyOk.int .i64).lt _ _)) (SelE.leaf (lk 21 rfl rfl) rfl (.refl _) (fun m => ((TyOk.int .i64).lt _ _)) (SelE.leaf (lk 22 rfl rfl) rfl (.refl _) (fun m => rfl) (SelE.leaf (lk 23 rfl rfl) rfl (.refl _) (fun m => (lt_sl rfl (ty_THold.ltm _ _))) (SelE.leaf (lk 24 rfl rfl) rfl (.refl _) (fun m => ((TyOk.int .i64).lt _ _)) (SelE.leaf (lk 25 rfl rfl) rfl (.refl _) (fun m => ((TyOk.int .i64).lt _ _)) (SelE.leaf (lk 26 rfl rfl) rfl (.refl _) (fun m => ((TyOk.int .i64).lt _ _)) .nil))))))))))) .nil)⟩
      · skip
        refine AWp.skip ?_
        refine blockQ_n ?_
        refine thenQ_n ?_
        refine W.reg [0, 1] rfl ?_
        refine S.sil 31 rfl rfl (fun _ hF => .add (lk 8 rfl rfl) cI) ?_
        refine S.sil 18 rfl rfl (fun _ hF => .move (lk 0 rfl rfl)) ?_
        refine S.nil ?_
        refine thenQ_n ?_
        exact ⟨_, h5.ret, (Wk.selS [] (by decide) rfl (SelE.leaf (lk 0 rfl rfl) rfl (.refl _) (fun m => ((TyOk.int .i64).lt _ _)) (SelE.leaf (lk 11 rfl rfl) rfl (.refl _) (fun m => ((TyOk.int .i64).lt _ _)) (SelE.leaf (lk 12 rfl rfl) rfl (.refl _) (fun m => (lt_sl rfl (ty_THold.ltm _ _))) (SelE.leaf (lk 13 rfl rfl) rfl (.refl _) (fun m => ((TyOk.int .i64).lt _ _)) (SelE.leaf (lk 14 rfl rfl) rfl (.refl _) (fun m => ((TyOk.int .i64).lt _ _)) (SelE.leaf (lk 15 rfl rfl) rfl (.refl _) (fun m => ((TyOk.int .i64).lt _ _)) (SelE.leaf (lk 16 rfl rfl) rfl (.refl _) (fun m => rfl) (SelE.leaf (lk 17 rfl rfl) rfl (.refl _) (fun m => (lt_sl rfl (ty_THold.ltm _ _))) (SelE.leaf (lk 18 rfl rfl) rfl (.refl _) (fun m => ((TyOk.int .i64).lt _ _)) (SelE.leaf (lk 19 rfl rfl) rfl (.refl _) (fun m => ((TyOk.int .i64).lt _ _)) (SelE.leaf (lk 20 rfl rfl) rfl (.refl _) (fun m => ((TyOk.int .i64).lt _ _)) .nil))))))))))) .nil)⟩
    · skip
      refine AWp.exit ?_
      refine thenQ_x ?_
      refine thenQ_x ?_
      refine blockQ_x ?_
      refine thenQ_n ?_
      exact ⟨_, h5.ret, (Wk.selS [] (by decide) rfl (SelE.leaf (lk 4 rfl rfl) rfl (.refl _) (fun m => ((TyOk.int .i64).lt _ _)) (SelE.leaf (lk 5 rfl rfl) rfl (.refl _) (fun m => ((TyOk.int .i64).lt _ _)) (SelE.leaf (lk 6 rfl rfl) rfl (.refl _) (fun m => ((TyOk.int .i64).lt _ _)) (SelE.leaf (lk 7 rfl rfl) rfl (.refl _) (fun m => rfl) (SelE.leaf (lk 8 rfl rfl) rfl (.refl _) (fun m => (lt_sl rfl (ty_THold.ltm _ _))) (SelE.leaf (lk 9 rfl rfl) rfl (.refl _) (fun m => ((TyOk.int .i64).lt _ _)) (SelE.leaf (lk 10 rfl rfl) rfl (.refl _) (fun m => ((TyOk.int .i64).lt _ _)) (SelE.leaf (lk 11 rfl rfl) rfl (.refl _) (fun m => ((TyOk.int .i64).lt _ _)) .nil)))))))) .nil)⟩
  · skip
    refine thenQ_n ?_
    refine AWp.seq ?_
    refine W.reg [0, 1, 2, 3, 4, 5, 6] rfl ?_
    refine S.sil 32 rfl rfl (fun _ hF => .move (lk 5 rfl rfl)) ?_
    refine S.sil 33 rfl rfl (fun _ hF => .move (lk 1 rfl rfl)) ?_
    refine S.sil 34 rfl rfl (fun _ hF => .move (lk 8 rfl rfl)) ?_
    refine S.sil 35 rfl rfl (fun _ hF => .move (lk 10 rfl rfl)) ?_
    obtain ⟨v11, ev11, h⟩ := h.nam
    refine S.sil 36 rfl rfl (fun _ hF => .nv (.nv (v2 := E_THold (⟨a2, x7, a3, a4, 1⟩ : THold)) (.buildStW lay66 zv66 rfl (.cons (lk 3 rfl rfl) rfl rfl rfl rfl (.cons (lk 2 rfl rfl) rfl rfl rfl rfl (.cons (lk 1 rfl rfl) rfl rfl rfl rfl (.cons (lk 0 rfl rfl) rfl rfl rfl rfl (.cons cI rfl rfl rfl rfl .nil)))))) rfl) (congrArg E_THold ev11.symm)) ?_
    refine S.eff 14 rfl rfl (.nf (v2 := .ptr 0 [] 0) (H2 := [.cells (E_THold (default : THold))]) (.alloc zv66) rfl rfl) trivial ?_
    refine S.effN rfl rfl (.nf (H2 := [.cells (E_THold v11)]) (.storeP sz66 (lk 0 rfl rfl) (lk 1 rfl rfl) rfl (.refl _) rfl .nil (by first | rfl | omega) .nil (ty_THold.fl v11) (ty_THold.fl (default : THold)) rfl) rfl rfl) trivial ?_
    refine S.nil ?_
    refine thenQ_n ?_
    refine AWp.wk (Wk.freeze 0 rfl rfl (.cons (lk 0 rfl rfl) rfl (.ptr .nil (by first | rfl | omega)) (.same (lk 6 rfl rfl) (.same (lk 7 rfl rfl) (.same (lk 8 rfl rfl) (.same (lk 9 rfl rfl) (.same (lk 10 rfl rfl) .nil)))))) (.refl _)) ?_
    refine AWp.seq ?_
    refine AWp.block ?_
    refine AWp.seq ?_
    refine W.reg [0, 1, 2, 3, 4, 5, 6, 7, 8] rfl ?_
    refine S.sil 38 rfl rfl (fun _ hF => .move (lk 5 rfl rfl)) ?_
    obtain ⟨r12, m12, h⟩ := h.bnd
    refine S.sil 39 rfl rfl (fun _ hF => .callQ ent76 cF (.c (lk 0 rfl rfl) (V.sub.refl _) .nil) (C_hold_Rights m12)) ?_
    refine S.sil 40 rfl rfl (fun _ hF => .not (lk 0 rfl rfl)) ?_
    refine S.sil 41 rfl rfl (fun _ hF => .move (lk 0 rfl rfl)) ?_
    refine S.gsil 42 3 41 false rfl rfl rfl (lk 0 rfl rfl) (fun hB _ hF => .loadC sz66 ag66 (lk 4 rfl rfl) (ty_THold.fl v11) rfl) ?_
    obtain ⟨r13, m13, h⟩ := h.bnd
    refine S.gsil 43 3 41 false rfl rfl rfl (lk 1 rfl rfl) (fun hB _ hF => .callQ ent124 cF (.c (ifT hB (lk 0 rfl rfl)) (V.sub.refl _) .nil) (C_hold_Right (gd_get m13 hB))) ?_
    refine S.gsil 44 3 41 false rfl rfl rfl (lk 2 rfl rfl) (fun hB _ hF => .not (ifT hB (lk 0 rfl rfl))) ?_
    refine S.sil 45 rfl rfl (fun _ hF => .pickOr (lk 3 rfl rfl) cB (fun h => ifT h (lk 0 rfl rfl))) ?_
    refine S.sil 37 rfl rfl (fun _ hF => .assign (lk 0 rfl rfl)) ?_
    refine S.nil ?_
    refine thenQ_n ?_
    refine AWp.condM (lk 0 rfl rfl) h (fun c3 h => ?_) (fun c3 h => ?_)
    · skip
      refine AWp.seq ?_
      refine W.reg [0, 1, 2] rfl ?_
      refine S.sil 8 rfl rfl (fun _ hF => .assign cNs) ?_
      refine S.sil 9 rfl rfl (fun _ hF => .assign cI) ?_
      refine S.sil 10 rfl rfl (fun _ hF => .assign cI) ?_
      refine S.nil ?_
      refine thenQ_n ?_
      refine AWp.prune (.eq (lk 0 rfl rfl) rfl (.eq (lk 1 rfl rfl) rfl (.eq (lk 2 rfl rfl) rfl (.eq (lk 12 rfl rfl) rfl (.eq (lk 13 rfl rfl) rfl (.eq (lk 17 rfl rfl) rfl .nil)))))) ?_
      refine AWp.ret ?_
      refine blockQ_r ?_
      refine thenQ_r ?_
      obtain rfl := h.ret
      exact endFN rfl (Wk.selS [] .nil rfl (SelE.leaf (lk 2 rfl rfl) rfl (.nils_no _) (fun m => (ty_S_THold.lt ([] : List THold) _)) (SelE.leaf (lk 1 rfl rfl) rfl (.refl _) (fun m => ((TyOk.int .i64).lt _ _)) (SelE.leaf (lk 0 rfl rfl) rfl (.refl _) (fun m => ((TyOk.int .i64).lt _ _)) .nil))) .nil) (.cons (.tmp (lk 0 rfl rfl) rfl) (.cons (.tmp (lk 1 rfl rfl) rfl) (.cons (.tmp (lk 2 rfl rfl) rfl) .nil))) rfl rfl rfl
    · skip
      refine AWp.seq ?_
      refine W.reg [0, 1, 2, 3] rfl ?_
      refine S.sil 47 rfl rfl (fun _ hF => .move (lk 14 rfl rfl)) ?_
      refine S.sil 48 rfl rfl (fun _ hF => .lenT sli31 (lk 0 rfl rfl) (vsub rfl (.refl _))) ?_
      refine S.sil 49 rfl rfl (fun _ hF => .eql (lk 0 rfl rfl) cI) ?_
      obtain ⟨v14, ev14, h⟩ := h.nam
      refine S.sil 46 rfl rfl (fun _ hF => .nv (.assign (lk 0 rfl rfl)) (congrArg V.bool ev14.symm)) ?_
      refine S.nil ?_
      refine thenQ_n ?_
      refine AWp.prune (.eq (lk 0 rfl rfl) rfl (.eq (lk 13 rfl rfl) rfl (.eq (lk 14 rfl rfl) rfl (.eq (lk 15 rfl rfl) rfl (.eq (lk 16 rfl rfl) rfl (.eq (lk 17 rfl rfl) rfl (.eq (lk 18 rfl rfl) rfl .nil))))))) ?_
      refine AWp.condM (lk 0 rfl rfl) h (fun c4 h => ?_) (fun c4 h => ?_)
      · skip
        refine AWp.seq ?_
        refine W.reg [0, 1, 2] rfl ?_
        refine S.sil 8 rfl rfl (fun _ hF => .assign cNs) ?_
        refine S.sil 9 rfl rfl (fun _ hF => .assign cI) ?_
        refine S.sil 10 rfl rfl (fun _ hF => .assign cI) ?_
        refine S.nil ?_
        refine thenQ_n ?_
        refine AWp.ret ?_
        refine blockQ_r ?_
        refine thenQ_r ?_
        obtain rfl := h.ret
        exact endFN rfl (Wk.selS [] .nil rfl (SelE.leaf (lk 2 rfl rfl) rfl (.nils_no _) (fun m => (ty_S_THold.lt ([] : List THold) _)) (SelE.leaf (lk 1 rfl rfl) rfl (.refl _) (fun m => ((TyOk.int .i64).lt _ _)) (SelE.leaf (lk 0 rfl rfl) rfl (.refl _) (fun m => ((TyOk.int .i64).lt _ _)) .nil))) .nil) (.cons (.tmp (lk 0 rfl rfl) rfl) (.cons (.tmp (lk 1 rfl rfl) rfl) (.cons (.tmp (lk 2 rfl rfl) rfl) .nil))) rfl rfl rfl
      · skip
        refine AWp.skip ?_
        refine blockQ_n ?_
        refine thenQ_n ?_
        refine AWp.seq ?_
        refine W.regD [0, 1, 2, 3, 4, 5] mixed ?_
        refine S.sil 50 rfl rfl (fun _ hF => .move (lk 6 rfl rfl)) ?_
        obtain ⟨l15, m15, h⟩ := h.bnd
        refine S.new 51 rfl rfl (.callN ent38 cF [] (C_cloneO_38 m15) .nil .nil (ltL_c (ty_S_THold.lt _ _) ltL_nil) (.c (lk 0 rfl rfl) (vsubr (V.sub.refl _) (ty_S_THold.lt _ 0)) .nil) rfl (mapc (ren_buf ty_THold _) rfl) rfl) trivial ?_
        refine S.sil 52 rfl rfl (fun _ hF => .loadC sz66 ag66 (lk 3 rfl rfl) (ty_THold.fl v11) rfl) ?_
        refine S.sil 53 rfl rfl (fun _ hF => .buildSliceW sli31 zv66 rfl rfl (by decide) (.cons (lk 0 rfl rfl) rfl (.refl _) (ty_THold.fl v11) .nil)) ?_
        obtain ⟨l16, m16, h⟩ := h.bnd
        refine S.eff 54 rfl rfl (.appOwnT sli31 und31 zv66 rfl (by decide) (lk 2 rfl rfl) rfl (by first | rfl | simp) (lk 0 rfl rfl) Rd.sl m16 rfl) trivial ?_
        refine S.sil 15 rfl rfl (fun _ hF => .assign (lk 0 rfl rfl)) ?_
        refine S.nilD (by kernel_rfl) ?_
        refine thenQ_n ?_
        refine AWp.seq ?_
        refine W.reg [0, 1] rfl ?_
        refine S.sil 55 rfl rfl (fun _ hF => .move (lk 0 rfl rfl)) ?_
        obtain ⟨l17, m17, h⟩ := h.bnd
        refine S.eff 56 rfl rfl (.nf (H2 := [.dead, .dead, .buf 5 (List.map E_THold l17)]) (.sortFunc (ρ := Go.Proofs.Try.sort107_ren) srt107 rfl rfl ag66 sz66 ty_THold holdCmp_swo ent107 ent108 ltL_nil (fun x y => C_hold_compare (hold_compare_eq x y)) cF (lk 0 rfl rfl) cF rfl (by first | rfl | simp) m17 rfl) rfl rfl) trivial ?_
        refine S.nil ?_
        refine thenQ_n ?_
        refine AWp.prune (.eq (lk 2 rfl rfl) rfl (.eq (lk 10 rfl rfl) rfl (.eq (lk 11 rfl rfl) rfl (.eq (lk 12 rfl rfl) rfl (.eq (lk 13 rfl rfl) rfl .nil))))) ?_
        refine AWp.seq ?_
        refine W.reg [0, 1, 2, 3, 4] rfl ?_
        refine S.sil 57 rfl rfl (fun _ hF => .move (lk 0 rfl rfl)) ?_
        refine S.sil 58 rfl rfl (fun _ hF => .move (lk 2 rfl rfl)) ?_
        refine S.sil 8 rfl rfl (fun _ hF => .assign (lk 1 rfl rfl)) ?_
        refine S.sil 9 rfl rfl (fun _ hF => .assign (lk 1 rfl rfl)) ?_
        refine S.sil 10 rfl rfl (fun _ hF => .assign cI) ?_
        refine S.nil ?_
        refine thenQ_n ?_
        refine AWp.ret ?_
        refine endF_wk (Wk.freeze 2 rfl rfl (.same (lk 0 rfl rfl) (.same (lk 1 rfl rfl) (.cons (lk 2 rfl rfl) rfl (.slo (by first | rfl | simp [(sort_len holdCmp_swo m17)])) (.same (lk 0 rfl rfl) (.same (lk 1 rfl rfl) (.same (lk 2 rfl rfl) .nil)))))) (.refl _)) ?_
        obtain rfl := h.ret
        exact endFN rfl (Wk.selS [] .nil rfl (SelE.leaf (lk 2 rfl rfl) rfl (.refl _) (fun m => (ty_S_THold.lt _ _)) (SelE.leaf (lk 1 rfl rfl) rfl (.refl _) (fun m => ((TyOk.int .i64).lt _ _)) (SelE.leaf (lk 0 rfl rfl) rfl (.refl _) (fun m => ((TyOk.int .i64).lt _ _)) .nil))) .nil) (.cons (.tmp (lk 0 rfl rfl) rfl) (.cons (.tmp (lk 1 rfl rfl) rfl) (.cons (.tmp (lk 2 rfl rfl) rfl) .nil))) rfl rfl rfl
theorem C_field_Reserve {a1 : TField} {a2 : Int} {a3 : Int} {a4 : Int} {r : TField × Int × Int} (h : field_Reserve a1 a2 a3 a4 = some r) : PureC Pg 32 [E_TField a1, (V.int .i64) a2, (V.int .i64) a3, (V.int .i64) a4] (.tup [E_TField r.1, (V.int .i64) r.2.1, (V.int .i64) r.2.2]) := by
  refine PureC.ofF (CallSpec.of_bodyF 41 0 fn32 rfl rfl rfl (Nat.le_of_ble_eq_true rfl) ?_) (ltL_c (ty_TField.lt _ _) (ltL_c ((TyOk.int .i64).lt _ _) (ltL_c ((TyOk.int .i64).lt _ _) (ltL_c ((TyOk.int .i64).lt _ _) ltL_nil)))) (lt_tup (ltL_c (ty_TField.lt _ _) (ltL_c ((TyOk.int .i64).lt _ _) (ltL_c ((TyOk.int .i64).lt _ _) ltL_nil))))
  replace h := Ok.of h
  unfold field_Reserve at h
  refine AWp.seq ?_
  refine W.reg [0, 1, 2, 3] rfl ?_
  refine S.eff 4 rfl rfl (.nf (v2 := .ptr 0 [] 0) (H2 := [.cells (E_TField a1)]) (.box (lk 0 rfl rfl) rfl) rfl rfl) trivial ?_
  refine S.eff 8 rfl rfl (.nf (v2 := .ptr 1 [] 0) (H2 := [.cells (E_TField a1), .cells (.st [V.str (default : ByteArray), (V.int .i64) 0, (V.int .i64) 0, E_TCounter (default : TCounter), E_TLock (default : TLock), .nils])]) (.alloc zv33) rfl rfl) trivial ?_
  refine S.sil 9 rfl rfl (fun _ hF => .assign cI) ?_
  refine S.sil 10 rfl rfl (fun _ hF => .assign cI) ?_
  refine S.nil ?_
  refine thenQ_n ?_
  refine AWp.seq ?_
  refine AWp.seq ?_
  refine W.reg [0, 1, 2, 3, 4] rfl ?_
  refine S.qui 15 rfl rfl (fun _ => .loadP sz33 ag33 (lk 3 rfl rfl) rfl .nil (by first | rfl | omega) (ty_TField.fl a1) rfl) ?_
  refine S.sil 16 rfl rfl (fun _ hF => .move (lk 6 rfl rfl)) ?_
  refine S.sil 17 rfl rfl (fun _ hF => .move (lk 8 rfl rfl)) ?_
  obtain ⟨r5, m5, h⟩ := h.bnd
  refine S.sil 18 rfl rfl (fun _ hF => .callQ ent65 cF (.c (lk 2 rfl rfl) (V.sub.refl _) (.c (lk 1 rfl rfl) (V.sub.refl _) (.c (lk 0 rfl rfl) (V.sub.refl _) .nil))) (C_field_lacks m5)) ?_
  refine S.sil 11 rfl rfl (fun _ hF => .assign (lk 0 rfl rfl)) ?_
  refine S.nil ?_
  refine thenQ_n ?_
  refine AWp.seq ?_
  refine W.reg [0, 1] rfl ?_
  refine S.sil 19 rfl rfl (fun _ hF => .move (lk 0 rfl rfl)) ?_
  refine S.sil 20 rfl rfl (fun _ hF => .neq (lk 0 rfl rfl) cI) ?_
  refine S.nil ?_
  refine thenQ_n ?_
  refine AWp.condM (lk 0 rfl rfl) h (fun c1 h => ?_) (fun c1 h => ?_)
  · skip
    refine AWp.seq ?_
    refine W.reg [0, 1, 2, 3, 4] rfl ?_
    obtain ⟨v6, ev6, h⟩ := h.nam
    refine S.sil 21 rfl rfl (fun _ hF => .nv (.vs (v := .st [V.str (default : ByteArray), (V.int .i64) 0, (V.int .i64) 0, E_TCounter (default : TCounter), E_TLock (default : TLock), .nils]) (v2 := E_TField (⟨(default : ByteArray), 0, 0, (default : TCounter), (default : TLock), ([] : List THold)⟩ : TField)) (.buildStW lay33 zv33 rfl .nil) rfl (.st (.cons (.refl _) (.cons (.refl _) (.cons (.refl _) (.cons (.refl _) (.cons (.refl _) (.cons (.nils_no _) .nil)))))))) (congrArg E_TField ev6.symm)) ?_
    refine S.sil 22 rfl rfl (fun _ hF => .move (lk 3 rfl rfl)) ?_
    refine S.effN rfl rfl (.nf (H2 := [.cells (E_TField a1), .cells (E_TField v6)]) (.storeP sz33 (lk 11 rfl rfl) (lk 1 rfl rfl) rfl (.refl _) rfl .nil (by first | rfl | omega) .nil (ty_TField.fl v6) (fl_st (flL_c (show flen _ = 1 from rfl) (flL_c (show flen _ = 1 from rfl) (flL_c (show flen _ = 1 from rfl) (flL_c (ty_TCounter.fl (default : TCounter)) (flL_c (ty_TLock.fl (default : TLock)) (flL_c (show flen _ = 1 from rfl) flL_nil))))))) rfl) rfl rfl) trivial ?_
    refine S.sil 9 rfl rfl (fun _ hF => .assign cI) ?_
    refine S.sil 10 rfl rfl (fun _ hF => .assign (lk 1 rfl rfl)) ?_
    refine S.nil ?_
    refine thenQ_n ?_
    refine AWp.prune (.eq (lk 0 rfl rfl) rfl (.eq (lk 1 rfl rfl) rfl (.eq (lk 13 rfl rfl) rfl (.eq (lk 14 rfl rfl) rfl (.eq (lk 16 rfl rfl) rfl (.eq (lk 17 rfl rfl) rfl (.eq (lk 18 rfl rfl) rfl .nil))))))) ?_
    refine AWp.ret ?_
    refine thenQ_r ?_
    refine endF_wk (Wk.freeze 1 rfl rfl (.same (lk 0 rfl rfl) (.same (lk 1 rfl rfl) (.cons (lk 2 rfl rfl) rfl (.ptr .nil (by first | rfl | omega)) .nil))) (.refl _)) ?_
    obtain rfl := h.ret
    exact endFN rfl (Wk.selS [] .nil rfl (SelE.leaf (lk 2 rfl rfl) rfl (.refl _) (fun m => (lt_cptr (ty_TField.lt _ _))) (SelE.leaf (lk 1 rfl rfl) rfl (.refl _) (fun m => ((TyOk.int .i64).lt _ _)) (SelE.leaf (lk 0 rfl rfl) rfl (.refl _) (fun m => ((TyOk.int .i64).lt _ _)) .nil))) .nil) (.cons (.cellC sz33 ag33 (lk 0 rfl rfl) (ty_TField.fl _) rfl) (.cons (.tmp (lk 1 rfl rfl) rfl) (.cons (.tmp (lk 2 rfl rfl) rfl) .nil))) rfl rfl rfl
  · skip
    refine AWp.skip ?_
    refine thenQ_n ?_
    refine AWp.seq ?_
    refine W.reg [0, 1, 2, 3, 4, 5, 6, 7, 8, 9, 10, 11, 12] rfl ?_
    refine S.sil 24 rfl rfl (fun _ hF => .fieldAddr lay33 rfl rfl (lk 10 rfl rfl)) ?_
    refine S.qui 25 rfl rfl (fun _ => .loadP sz31 ag31 (lk 0 rfl rfl) rfl (.st rfl (flL_c (show flen _ = 1 from rfl) (flL_c (show flen _ = 1 from rfl) (flL_c (show flen _ = 1 from rfl) (flL_c (ty_TCounter.fl a1.Counter) (flL_c (ty_TLock.fl a1.Lock) flL_nil))))) .nil) (by first | rfl | omega) rfl rfl) ?_
    refine S.sil 26 rfl rfl (fun _ hF => .move (lk 14 rfl rfl)) ?_
    refine S.sil 27 rfl rfl (fun _ hF => .move (lk 16 rfl rfl)) ?_
    refine S.sil 28 rfl rfl (fun _ hF => .move (lk 18 rfl rfl)) ?_
    obtain ⟨r7, m7, h⟩ := h.bnd
    refine S.sil 29 rfl rfl (fun _ hF => .callQ ent70 cF (.c (lk 3 rfl rfl) (V.sub.refl _) (.c (lk 2 rfl rfl) (V.sub.refl _) (.c (lk 1 rfl rfl) (V.sub.refl _) (.c (lk 0 rfl rfl) (V.sub.refl _) .nil)))) (C_hold_Reserve m7)) ?_
    refine S.sil 23 rfl rfl (fun _ hF => .move (lk 0 rfl rfl)) ?_
    refine S.sil 30 rfl rfl (fun _ hF => .extract (lk 0 rfl rfl) rfl) ?_
    refine S.sil 31 rfl rfl (fun _ hF => .extract (lk 1 rfl rfl) rfl) ?_
    refine S.sil 32 rfl rfl (fun _ hF => .extract (lk 2 rfl rfl) rfl) ?_
    refine S.sil 12 rfl rfl (fun _ hF => .assign (lk 2 rfl rfl)) ?_
    refine S.sil 13 rfl rfl (fun _ hF => .assign (lk 2 rfl rfl)) ?_
    refine S.sil 14 rfl rfl (fun _ hF => .assign (lk 2 rfl rfl)) ?_
    refine S.nil ?_
    refine thenQ_n ?_
    refine AWp.prune (.eq (lk 0 rfl rfl) rfl (.eq (lk 1 rfl rfl) rfl (.eq (lk 2 rfl rfl) rfl (.eq (lk 20 rfl rfl) rfl (.eq (lk 21 rfl rfl) rfl (.eq (lk 22 rfl rfl) rfl (.eq (lk 23 rfl rfl) rfl .nil))))))) ?_
    refine AWp.seq ?_
    refine AWp.seq ?_
    refine W.reg [0, 1] rfl ?_
    refine S.sil 33 rfl rfl (fun _ hF => .move (lk 0 rfl rfl)) ?_
    refine S.sil 34 rfl rfl (fun _ hF => .neq (lk 0 rfl rfl) cI) ?_
    refine S.nil ?_
    refine thenQ_n ?_
    refine AWp.condM (lk 0 rfl rfl) h (fun c2 h => ?_) (fun c2 h => ?_)
    · skip
      refine AWp.seq ?_
      refine W.reg [0, 1, 2, 3, 4] rfl ?_
      obtain ⟨v8, ev8, h⟩ := h.nam
      refine S.sil 35 rfl rfl (fun _ hF => .nv (.vs (v := .st [V.str (default : ByteArray), (V.int .i64) 0, (V.int .i64) 0, E_TCounter (default : TCounter), E_TLock (default : TLock), .nils]) (v2 := E_TField (⟨(default : ByteArray), 0, 0, (default : TCounter), (default : TLock), ([] : List THold)⟩ : TField)) (.buildStW lay33 zv33 rfl .nil) rfl (.st (.cons (.refl _) (.cons (.refl _) (.cons (.refl _) (.cons (.refl _) (.cons (.refl _) (.cons (.nils_no _) .nil)))))))) (congrArg E_TField ev8.symm)) ?_
      refine S.sil 36 rfl rfl (fun _ hF => .move (lk 3 rfl rfl)) ?_
      refine S.effN rfl rfl (.nf (H2 := [.cells (E_TField a1), .cells (E_TField v8)]) (.storeP sz33 (lk 9 rfl rfl) (lk 1 rfl rfl) rfl (.refl _) rfl .nil (by first | rfl | omega) .nil (ty_TField.fl v8) (fl_st (flL_c (show flen _ = 1 from rfl) (flL_c (show flen _ = 1 from rfl) (flL_c (show flen _ = 1 from rfl) (flL_c (ty_TCounter.fl (default : TCounter)) (flL_c (ty_TLock.fl (default : TLock)) (flL_c (show flen _ = 1 from rfl) flL_nil))))))) rfl) rfl rfl) trivial ?_
      refine S.sil 9 rfl rfl (fun _ hF => .assign cI) ?_
      refine S.sil 10 rfl rfl (fun _ hF => .assign (lk 1 rfl rfl)) ?_
      refine S.nil ?_
      refine thenQ_n ?_
      refine AWp.ret ?_
      refine thenQ_r ?_
      refine endF_wk (Wk.freeze 1 rfl rfl (.same (lk 0 rfl rfl) (.same (lk 1 rfl rfl) (.same (lk 0 rfl rfl) (.same (lk 1 rfl rfl) (.cons (lk 11 rfl rfl) rfl (.ptr .nil (by first | rfl | omega)) .nil))))) (.refl _)) ?_
      obtain rfl := h.ret
      exact endFN rfl (Wk.selS [] .nil rfl (SelE.leaf (lk 4 rfl rfl) rfl (.refl _) (fun m => (lt_cptr (ty_TField.lt _ _))) (SelE.leaf (lk 1 rfl rfl) rfl (.refl _) (fun m => ((TyOk.int .i64).lt _ _)) (SelE.leaf (lk 0 rfl rfl) rfl (.refl _) (fun m => ((TyOk.int .i64).lt _ _)) .nil))) .nil) (.cons (.cellC sz33 ag33 (lk 0 rfl rfl) (ty_TField.fl _) rfl) (.cons (.tmp (lk 1 rfl rfl) rfl) (.cons (.tmp (lk 2 rfl rfl) rfl) .nil))) rfl rfl rfl
    · skip
      refine AWp.skip ?_
      refine thenQ_n ?_
      refine AWp.seq ?_
      refine W.reg [0, 1, 2] rfl ?_
      refine S.sil 37 rfl rfl (fun _ hF => .move (lk 4 rfl rfl)) ?_
      refine S.sil 38 rfl rfl (fun _ hF => .fieldAddr lay33 rfl rfl (lk 9 rfl rfl)) ?_
      obtain ⟨v9, ev9, h⟩ := h.nam
      refine S.effN rfl rfl (.nf (H2 := [.cells (E_TField v9), .cells (.st [V.str (default : ByteArray), (V.int .i64) 0, (V.int .i64) 0, E_TCounter (default : TCounter), E_TLock (default : TLock), .nils])]) (.storeP sz31 (lk 0 rfl rfl) (lk 1 rfl rfl) rfl (.refl _) rfl (.st rfl (flL_c (show flen _ = 1 from rfl) (flL_c (show flen _ = 1 from rfl) (flL_c (show flen _ = 1 from rfl) (flL_c (ty_TCounter.fl a1.Counter) (flL_c (ty_TLock.fl a1.Lock) flL_nil))))) .nil) (by first | rfl | omega) (.st rfl .nil rfl) rfl rfl (congrArg (fun z => ([AObj.cells (E_TField z), .cells (.st [V.str (default : ByteArray), (V.int .i64) 0, (V.int .i64) 0, E_TCounter (default : TCounter), E_TLock (default : TLock), .nils])] : List AObj)) ev9.symm)) rfl rfl) trivial ?_
      refine S.nil ?_
      refine thenQ_n ?_
      refine AWp.seq ?_
      refine W.reg [0, 1, 2, 3, 4] rfl ?_
      refine S.qui 39 rfl rfl (fun _ => .loadP sz33 ag33 (lk 10 rfl rfl) rfl .nil (by first | rfl | omega) (ty_TField.fl v9) rfl) ?_
      refine S.sil 40 rfl rfl (fun _ hF => .move (lk 6 rfl rfl)) ?_
      refine S.effN rfl rfl (.nf (H2 := [.cells (E_TField v9), .cells (E_TField v9)]) (.storeP sz33 (lk 11 rfl rfl) (lk 1 rfl rfl) rfl (.refl _) rfl .nil (by first | rfl | omega) .nil (ty_TField.fl v9) (fl_st (flL_c (show flen _ = 1 from rfl) (flL_c (show flen _ = 1 from rfl) (flL_c (show flen _ = 1 from rfl) (flL_c (ty_TCounter.fl (default : TCounter)) (flL_c (ty_TLock.fl (default : TLock)) (flL_c (show flen _ = 1 from rfl) flL_nil))))))) rfl) rfl rfl) trivial ?_
      refine S.sil 9 rfl rfl (fun _ hF => .assign (lk 0 rfl rfl)) ?_
      refine S.sil 10 rfl rfl (fun _ hF => .assign cI) ?_
      refine S.nil ?_
      refine thenQ_n ?_
      refine AWp.prune (.eq (lk 0 rfl rfl) rfl (.eq (lk 1 rfl rfl) rfl (.eq (lk 13 rfl rfl) rfl .nil))) ?_
      refine AWp.ret ?_
      refine endF_wk (Wk.freeze 1 rfl rfl (.same (lk 0 rfl rfl) (.same (lk 1 rfl rfl) (.cons (lk 2 rfl rfl) rfl (.ptr .nil (by first | rfl | omega)) .nil))) (.refl _)) ?_
      obtain rfl := h.ret
      exact endFN rfl (Wk.selS [] .nil rfl (SelE.leaf (lk 2 rfl rfl) rfl (.refl _) (fun m => (lt_cptr (ty_TField.lt _ _))) (SelE.leaf (lk 1 rfl rfl) rfl (.refl _) (fun m => ((TyOk.int .i64).lt _ _)) (SelE.leaf (lk 0 rfl rfl) rfl (.refl _) (fun m => ((TyOk.int .i64).lt _ _)) .nil))) .nil) (.cons (.cellC sz33 ag33 (lk 0 rfl rfl) (ty_TField.fl _) rfl) (.cons (.tmp (lk 1 rfl rfl) rfl) (.cons (.tmp (lk 2 rfl rfl) rfl) .nil))) rfl rfl rfl
theorem C_rights_enough {a1 : TRights} {a2 : Int} {a3 : Int} {r : Int} (h : rights_enough a1 a2 a3 = some r) : PureC Pg 152 [E_TRights a1, (V.int .i64) a2, (V.int .i64) a3] ((V.int .i64) r) := by
  refine PureC.ofF (CallSpec.of_bodyF 25 0 fn152 rfl rfl rfl (Nat.le_of_ble_eq_true rfl) ?_) (ltL_c (ty_TRights.lt _ _) (ltL_c ((TyOk.int .i64).lt _ _) (ltL_c ((TyOk.int .i64).lt _ _) ltL_nil))) ((TyOk.int .i64).lt _ _)
  replace h := Ok.of h
  unfold rights_enough at h
  refine AWp.seq ?_
  refine W.reg [0, 1] rfl ?_
  refine S.eff 3 rfl rfl (.nf (v2 := .ptr 0 [] 0) (H2 := [.cells (E_TRights a1)]) (.box (lk 0 rfl rfl) rfl) rfl rfl) trivial ?_
  refine S.sil 6 rfl rfl (fun _ hF => .assign cI) ?_
  refine S.nil ?_
  refine thenQ_n ?_
  refine AWp.wk (Wk.freeze 0 rfl rfl (.same (lk 0 rfl rfl) (.cons (lk 1 rfl rfl) rfl (.ptr .nil (by first | rfl | omega)) (.same (lk 3 rfl rfl) (.same (lk 4 rfl rfl) .nil)))) (.refl _)) ?_
  refine AWp.seq ?_
  refine AWp.seq ?_
  refine W.reg [0, 1] rfl ?_
  refine S.sil 9 rfl rfl (fun _ hF => .move (lk 3 rfl rfl)) ?_
  refine S.sil 10 rfl rfl (fun _ hF => .lss (lk 0 rfl rfl) cI) ?_
  refine S.nil ?_
  refine thenQ_n ?_
  refine AWp.condM (lk 0 rfl rfl) h (fun c1 h => ?_) (fun c1 h => ?_)
  · skip
    refine AWp.seq ?_
    refine W.reg [0] rfl ?_
    refine S.sil 6 rfl rfl (fun _ hF => .assign cI) ?_
    refine S.nil ?_
    refine thenQ_n ?_
    refine AWp.ret ?_
    refine thenQ_r ?_
    obtain rfl := h.ret
    exact endF1 rfl (Wk.selS [] .nil rfl (SelE.leaf (lk 0 rfl rfl) rfl (.refl _) (fun m => ((TyOk.int .i64).lt _ _)) .nil) .nil) (.tmp (lk 0 rfl rfl) rfl) rfl rfl
  · skip
    refine AWp.skip ?_
    refine thenQ_n ?_
    refine AWp.seq ?_
    refine W.reg [0, 1, 2, 3, 4, 5, 6, 7] rfl ?_
    refine S.sil 12 rfl rfl (fun _ hF => .loadC sz26 ag26 (lk 3 rfl rfl) (ty_TRights.fl a1) rfl) ?_
    refine S.sil 13 rfl rfl (fun _ hF => .move (lk 5 rfl rfl)) ?_
    obtain ⟨r4, m4, h⟩ := h.bnd
    refine S.sil 14 rfl rfl (fun _ hF => .callQ ent182 cF (.c (lk 1 rfl rfl) (V.sub.refl _) (.c (lk 0 rfl rfl) (V.sub.refl _) .nil)) (C_rights_Free m4)) ?_
    refine S.sil 11 rfl rfl (fun _ hF => .move (lk 0 rfl rfl)) ?_
    refine S.sil 15 rfl rfl (fun _ hF => .extract (lk 0 rfl rfl) rfl) ?_
    refine S.sil 16 rfl rfl (fun _ hF => .extract (lk 1 rfl rfl) rfl) ?_
    refine S.sil 7 rfl rfl (fun _ hF => .assign (lk 1 rfl rfl)) ?_
    refine S.sil 8 rfl rfl (fun _ hF => .assign (lk 1 rfl rfl)) ?_
    refine S.nil ?_
    refine thenQ_n ?_
    refine AWp.prune (.eq (lk 0 rfl rfl) rfl (.eq (lk 1 rfl rfl) rfl (.eq (lk 10 rfl rfl) rfl (.eq (lk 13 rfl rfl) rfl .nil)))) ?_
    refine AWp.seq ?_
    refine AWp.block ?_
    refine AWp.seq ?_
    refine W.reg [0, 1, 2] rfl ?_
    refine S.sil 18 rfl rfl (fun _ hF => .move (lk 0 rfl rfl)) ?_
    refine S.sil 19 rfl rfl (fun _ hF => .neq (lk 0 rfl rfl) cI) ?_
    refine S.sil 17 rfl rfl (fun _ hF => .assign (lk 0 rfl rfl)) ?_
    refine S.nil ?_
    refine thenQ_n ?_
    refine AWp.condM (lk 0 rfl rfl) h (fun c2 h => ?_) (fun c2 h => ?_)
    · skip
      refine AWp.seq ?_
      refine W.reg [0, 1] rfl ?_
      refine S.sil 20 rfl rfl (fun _ hF => .move (lk 3 rfl rfl)) ?_
      refine S.sil 6 rfl rfl (fun _ hF => .assign (lk 0 rfl rfl)) ?_
      refine S.nil ?_
      refine thenQ_n ?_
      refine AWp.ret ?_
      refine blockQ_r ?_
      refine thenQ_r ?_
      obtain rfl := h.ret
      exact endF1 rfl (Wk.selS [] .nil rfl (SelE.leaf (lk 0 rfl rfl) rfl (.refl _) (fun m => ((TyOk.int .i64).lt _ _)) .nil) .nil) (.tmp (lk 0 rfl rfl) rfl) rfl rfl
    · skip
      refine AWp.seq ?_
      refine W.reg [0, 1, 2, 3] rfl ?_
      refine S.sil 22 rfl rfl (fun _ hF => .move (lk 6 rfl rfl)) ?_
      refine S.sil 23 rfl rfl (fun _ hF => .move (lk 5 rfl rfl)) ?_
      refine S.sil 24 rfl rfl (fun _ hF => .gtr (lk 1 rfl rfl) (lk 0 rfl rfl)) ?_
      refine S.sil 21 rfl rfl (fun _ hF => .assign (lk 0 rfl rfl)) ?_
      refine S.nil ?_
      refine thenQ_n ?_
      refine AWp.condM (lk 0 rfl rfl) h (fun c3 h => ?_) (fun c3 h => ?_)
      · skip
        refine AWp.seq ?_
        refine W.reg [0] rfl ?_
        refine S.sil 6 rfl rfl (fun _ hF => .assign cI) ?_
        refine S.nil ?_
        refine thenQ_n ?_
        refine AWp.prune (.eq (lk 0 rfl rfl) rfl .nil) ?_
        refine AWp.ret ?_
        refine blockQ_r ?_
        refine thenQ_r ?_
        obtain rfl := h.ret
        exact endF1 rfl (Wk.selS [] .nil rfl (SelE.leaf (lk 0 rfl rfl) rfl (.refl _) (fun m => ((TyOk.int .i64).lt _ _)) .nil) .nil) (.tmp (lk 0 rfl rfl) rfl) rfl rfl
      · skip
        refine AWp.skip ?_
        refine blockQ_n ?_
        refine thenQ_n ?_
        refine AWp.prune (.eq (lk 9 rfl rfl) rfl .nil) ?_
        refine AWp.seq ?_
        refine W.reg [0] rfl ?_
        refine S.sil 6 rfl rfl (fun _ hF => .assign cI) ?_
        refine S.nil ?_
        refine thenQ_n ?_
        refine AWp.ret ?_
        obtain rfl := h.ret
        exact endF1 rfl (Wk.selS [] .nil rfl (SelE.leaf (lk 0 rfl rfl) rfl (.refl _) (fun m => ((TyOk.int .i64).lt _ _)) .nil) .nil) (.tmp (lk 0 rfl rfl) rfl) rfl rfl
theorem C_vec_Grow {a1 : Vector Int 16} {a2 : Int} {a3 : Int} {r : (Vector Int 16) × Int} (h : vec_Grow a1 a2 a3 = some r) : PureC Pg 153 [E_A16_i64 a1, (V.int .i64) a2, (V.int .i64) a3] (.tup [E_A16_i64 r.1, (V.int .i64) r.2]) := by
  refine PureC.ofF (CallSpec.of_bodyF 37 0 fn153 rfl rfl rfl (Nat.le_of_ble_eq_true rfl) ?_) (ltL_c (ty_A16_i64.lt _ _) (ltL_c ((TyOk.int .i64).lt _ _) (ltL_c ((TyOk.int .i64).lt _ _) ltL_nil))) (lt_tup (ltL_c (ty_A16_i64.lt _ _) (ltL_c ((TyOk.int .i64).lt _ _) ltL_nil)))
  replace h := Ok.of h
  unfold vec_Grow at h
  refine AWp.seq ?_
  refine W.reg [0, 1, 2] rfl ?_
  refine S.eff 3 rfl rfl (.nf (v2 := .ptr 0 [] 0) (H2 := [.cells (E_A16_i64 a1)]) (.box (lk 0 rfl rfl) rfl) rfl rfl) trivial ?_
  refine S.eff 6 rfl rfl (.nf (v2 := .ptr 1 [] 0) (H2 := [.cells (E_A16_i64 a1), .cells (E_A16_i64 (default : Vector Int 16))]) (.alloc zv23) rfl rfl) trivial ?_
  refine S.sil 7 rfl rfl (fun _ hF => .assign cI) ?_
  refine S.nil ?_
  refine thenQ_n ?_
  refine AWp.seq ?_
  refine AWp.seq ?_
  refine W.reg [0, 1, 2, 3, 4, 5, 6, 7, 8, 9] rfl ?_
  refine S.sil 10 rfl rfl (fun _ hF => .move (lk 4 rfl rfl)) ?_
  refine S.sil 11 rfl rfl (fun _ hF => .lss (lk 0 rfl rfl) cI) ?_
  refine S.sil 12 rfl rfl (fun _ hF => .move (lk 0 rfl rfl)) ?_
  refine S.gsil 13 2 12 false rfl rfl rfl (lk 0 rfl rfl) (fun hB _ hF => .move (lk 7 rfl rfl)) ?_
  refine S.gsil 14 2 12 false rfl rfl rfl (lk 1 rfl rfl) (fun hB _ hF => .geq (ifT hB (lk 0 rfl rfl)) cI) ?_
  refine S.sil 15 rfl rfl (fun _ hF => .pickOr (lk 2 rfl rfl) cB (fun h => ifT h (lk 0 rfl rfl))) ?_
  refine S.sil 16 rfl rfl (fun _ hF => .move (lk 0 rfl rfl)) ?_
  refine S.gsil 17 6 16 false rfl rfl rfl (lk 0 rfl rfl) (fun hB _ hF => .move (lk 12 rfl rfl)) ?_
  refine S.gsil 18 6 16 false rfl rfl rfl (lk 1 rfl rfl) (fun hB _ hF => .lss (ifT hB (lk 0 rfl rfl)) cI) ?_
  refine S.sil 19 rfl rfl (fun _ hF => .pickOr (lk 2 rfl rfl) cB (fun h => ifT h (lk 0 rfl rfl))) ?_
  refine S.nil ?_
  refine thenQ_n ?_
  refine AWp.prune (.eq (lk 0 rfl rfl) rfl (.eq (lk 10 rfl rfl) rfl (.eq (lk 11 rfl rfl) rfl (.eq (lk 12 rfl rfl) rfl (.eq (lk 14 rfl rfl) rfl (.eq (lk 15 rfl rfl) rfl .nil)))))) ?_
  refine AWp.condM (lk 0 rfl rfl) h (fun c1 h => ?_) (fun c1 h => ?_)
  · skip
    refine AWp.seq ?_
    refine W.reg [0, 1, 2] rfl ?_
    refine S.sil 20 rfl rfl (fun _ hF => .buildArrL (w := E_A16_i64 (default : Vector Int 16)) arr23 zv23 .nil rfl rfl) ?_
    obtain ⟨v4, ev4, h⟩ := h.nam
    refine S.effN rfl rfl (.nf (H2 := [.cells (E_A16_i64 a1), .cells (E_A16_i64 v4)]) (.storeP sz23 (lk 3 rfl rfl) (lk 0 rfl rfl) rfl (.refl _) rfl .nil (by first | rfl | omega) .nil (ty_A16_i64.fl (default : Vector Int 16)) (ty_A16_i64.fl (default : Vector Int 16)) (congrArg (fun z => ([.cells (E_A16_i64 a1), AObj.cells (E_A16_i64 z)] : List AObj)) ev4.symm)) rfl rfl) trivial ?_
    refine S.sil 7 rfl rfl (fun _ hF => .assign cI) ?_
    refine S.nil ?_
    refine thenQ_n ?_
    refine AWp.ret ?_
    refine thenQ_r ?_
    refine endF_wk (Wk.freeze 1 rfl rfl (.same (lk 0 rfl rfl) (.same (lk 0 rfl rfl) (.cons (lk 4 rfl rfl) rfl (.ptr .nil (by first | rfl | omega)) .nil))) (.refl _)) ?_
    obtain rfl := h.ret
    exact endFN rfl (Wk.selS [] .nil rfl (SelE.leaf (lk 2 rfl rfl) rfl (.refl _) (fun m => (lt_cptr (ty_A16_i64.lt _ _))) (SelE.leaf (lk 0 rfl rfl) rfl (.refl _) (fun m => ((TyOk.int .i64).lt _ _)) .nil)) .nil) (.cons (.cellC sz23 ag23 (lk 0 rfl rfl) (ty_A16_i64.fl _) rfl) (.cons (.tmp (lk 1 rfl rfl) rfl) .nil)) rfl rfl rfl
  · skip
    refine AWp.skip ?_
    refine thenQ_n ?_
    refine AWp.seq ?_
    refine W.reg [0, 1, 2, 3, 4, 5, 6, 7, 8, 9] rfl ?_
    refine S.sil 22 rfl rfl (fun _ hF => .move (lk 4 rfl rfl)) ?_
    obtain ⟨k5, m5, h⟩ := h.bnd
    refine S.sil 23 rfl rfl (fun _ hF => .ixP arr23 (lk 4 rfl rfl) (lk 0 rfl rfl) m5) ?_
    refine S.qui 24 rfl rfl (fun _ => .loadP sz3 ag3 (lk 0 rfl rfl) rfl (.vc k5 .nil) (by first | rfl | omega) rfl rfl) ?_
    refine S.sil 25 rfl rfl (fun _ hF => .move (lk 8 rfl rfl)) ?_
    obtain ⟨r6, m6, h⟩ := h.bnd
    refine S.sil 26 rfl rfl (fun _ hF => .callQ ent123 cF (.c (lk 1 rfl rfl) (V.sub.refl _) (.c (lk 0 rfl rfl) (V.sub.refl _) .nil)) (C_num_Add m6)) ?_
    refine S.sil 21 rfl rfl (fun _ hF => .move (lk 0 rfl rfl)) ?_
    refine S.sil 27 rfl rfl (fun _ hF => .extract (lk 0 rfl rfl) rfl) ?_
    refine S.sil 28 rfl rfl (fun _ hF => .extract (lk 1 rfl rfl) rfl) ?_
    refine S.sil 8 rfl rfl (fun _ hF => .assign (lk 1 rfl rfl)) ?_
    refine S.sil 9 rfl rfl (fun _ hF => .assign (lk 1 rfl rfl)) ?_
    refine S.nil ?_
    refine thenQ_n ?_
    refine AWp.prune (.eq (lk 0 rfl rfl) rfl (.eq (lk 1 rfl rfl) rfl (.eq (lk 11 rfl rfl) rfl (.eq (lk 12 rfl rfl) rfl (.eq (lk 13 rfl rfl) rfl (.eq (lk 14 rfl rfl) rfl .nil)))))) ?_
    refine AWp.seq ?_
    refine AWp.seq ?_
    refine W.reg [0, 1] rfl ?_
    refine S.sil 29 rfl rfl (fun _ hF => .move (lk 0 rfl rfl)) ?_
    refine S.sil 30 rfl rfl (fun _ hF => .neq (lk 0 rfl rfl) cI) ?_
    refine S.nil ?_
    refine thenQ_n ?_
    refine AWp.condM (lk 0 rfl rfl) h (fun c2 h => ?_) (fun c2 h => ?_)
    · skip
      refine AWp.seq ?_
      refine W.reg [0, 1, 2, 3] rfl ?_
      refine S.sil 31 rfl rfl (fun _ hF => .buildArrL (w := E_A16_i64 (default : Vector Int 16)) arr23 zv23 .nil rfl rfl) ?_
      refine S.sil 32 rfl rfl (fun _ hF => .move (lk 3 rfl rfl)) ?_
      obtain ⟨v7, ev7, h⟩ := h.nam
      refine S.effN rfl rfl (.nf (H2 := [.cells (E_A16_i64 a1), .cells (E_A16_i64 v7)]) (.storeP sz23 (lk 7 rfl rfl) (lk 1 rfl rfl) rfl (.refl _) rfl .nil (by first | rfl | omega) .nil (ty_A16_i64.fl (default : Vector Int 16)) (ty_A16_i64.fl (default : Vector Int 16)) (congrArg (fun z => ([.cells (E_A16_i64 a1), AObj.cells (E_A16_i64 z)] : List AObj)) ev7.symm)) rfl rfl) trivial ?_
      refine S.sil 7 rfl rfl (fun _ hF => .assign (lk 0 rfl rfl)) ?_
      refine S.nil ?_
      refine thenQ_n ?_
      refine AWp.ret ?_
      refine thenQ_r ?_
      refine endF_wk (Wk.freeze 1 rfl rfl (.same (lk 0 rfl rfl) (.same (lk 0 rfl rfl) (.cons (lk 8 rfl rfl) rfl (.ptr .nil (by first | rfl | omega)) .nil))) (.refl _)) ?_
      obtain rfl := h.ret
      exact endFN rfl (Wk.selS [] .nil rfl (SelE.leaf (lk 2 rfl rfl) rfl (.refl _) (fun m => (lt_cptr (ty_A16_i64.lt _ _))) (SelE.leaf (lk 0 rfl rfl) rfl (.refl _) (fun m => ((TyOk.int .i64).lt _ _)) .nil)) .nil) (.cons (.cellC sz23 ag23 (lk 0 rfl rfl) (ty_A16_i64.fl _) rfl) (.cons (.tmp (lk 1 rfl rfl) rfl) .nil)) rfl rfl rfl
    · skip
      refine AWp.skip ?_
      refine thenQ_n ?_
      refine AWp.seq ?_
      refine W.reg [0, 1, 2, 3] rfl ?_
      refine S.sil 33 rfl rfl (fun _ hF => .move (lk 7 rfl rfl)) ?_
      refine S.sil 34 rfl rfl (fun _ hF => .move (lk 4 rfl rfl)) ?_
      obtain ⟨k8, m8, h⟩ := h.bnd
      refine S.sil 35 rfl rfl (fun _ hF => .ixP arr23 (lk 8 rfl rfl) (lk 1 rfl rfl) m8) ?_
      obtain ⟨v9, ev9, h⟩ := h.nam
      refine S.effN rfl rfl (.nf (H2 := [.cells (E_A16_i64 v9), .cells (E_A16_i64 (default : Vector Int 16))]) (.storeP sz3 (lk 0 rfl rfl) (lk 1 rfl rfl) rfl (.refl _) rfl (.vc k8 .nil) (by first | rfl | omega) (.vc r6.1 k8 .nil) rfl rfl (congrArg (fun z => ([AObj.cells (E_A16_i64 z), .cells (E_A16_i64 (default : Vector Int 16))] : List AObj)) ev9.symm)) rfl rfl) trivial ?_
      refine S.nil ?_
      refine thenQ_n ?_
      refine AWp.seq ?_
      refine W.reg [0, 1, 2] rfl ?_
      refine S.qui 36 rfl rfl (fun _ => .loadP sz23 ag23 (lk 9 rfl rfl) rfl .nil (by first | rfl | omega) (ty_A16_i64.fl v9) rfl) ?_
      refine S.effN rfl rfl (.nf (H2 := [.cells (E_A16_i64 v9), .cells (E_A16_i64 v9)]) (.storeP sz23 (lk 9 rfl rfl) (lk 0 rfl rfl) rfl (.refl _) rfl .nil (by first | rfl | omega) .nil (ty_A16_i64.fl v9) (ty_A16_i64.fl (default : Vector Int 16)) rfl) rfl rfl) trivial ?_
      refine S.sil 7 rfl rfl (fun _ hF => .assign cI) ?_
      refine S.nil ?_
      refine thenQ_n ?_
      refine AWp.prune (.eq (lk 0 rfl rfl) rfl (.eq (lk 10 rfl rfl) rfl .nil)) ?_
      refine AWp.ret ?_
      refine endF_wk (Wk.freeze 1 rfl rfl (.same (lk 0 rfl rfl) (.cons (lk 1 rfl rfl) rfl (.ptr .nil (by first | rfl | omega)) .nil)) (.refl _)) ?_
      obtain rfl := h.ret
      exact endFN rfl (Wk.selS [] .nil rfl (SelE.leaf (lk 1 rfl rfl) rfl (.refl _) (fun m => (lt_cptr (ty_A16_i64.lt _ _))) (SelE.leaf (lk 0 rfl rfl) rfl (.refl _) (fun m => ((TyOk.int .i64).lt _ _)) .nil)) .nil) (.cons (.cellC sz23 ag23 (lk 0 rfl rfl) (ty_A16_i64.fl _) rfl) (.cons (.tmp (lk 1 rfl rfl) rfl) .nil)) rfl rfl rfl
theorem C_rights_Use {a1 : TRights} {a2 : Int} {a3 : Int} {r : TRights × Int} (h : rights_Use a1 a2 a3 = some r) : PureC Pg 114 [E_TRights a1, (V.int .i64) a2, (V.int .i64) a3] (.tup [E_TRights r.1, (V.int .i64) r.2]) := by
  refine PureC.ofF (CallSpec.of_bodyF 31 0 fn114 rfl rfl rfl (Nat.le_of_ble_eq_true rfl) ?_) (ltL_c (ty_TRights.lt _ _) (ltL_c ((TyOk.int .i64).lt _ _) (ltL_c ((TyOk.int .i64).lt _ _) ltL_nil))) (lt_tup (ltL_c (ty_TRights.lt _ _) (ltL_c ((TyOk.int .i64).lt _ _) ltL_nil)))
  replace h := Ok.of h
  unfold rights_Use at h
  refine AWp.seq ?_
  refine W.reg [0, 1, 2] rfl ?_
  refine S.eff 3 rfl rfl (.nf (v2 := .ptr 0 [] 0) (H2 := [.cells (E_TRights a1)]) (.box (lk 0 rfl rfl) rfl) rfl rfl) trivial ?_
  refine S.eff 6 rfl rfl (.nf (v2 := .ptr 1 [] 0) (H2 := [.cells (E_TRights a1), .cells (E_TRights (default : TRights))]) (.alloc zv26) rfl rfl) trivial ?_
  refine S.sil 7 rfl rfl (fun _ hF => .assign cI) ?_
  refine S.nil ?_
  refine thenQ_n ?_
  refine AWp.seq ?_
  refine W.reg [0, 1, 2, 3, 4] rfl ?_
  refine S.qui 10 rfl rfl (fun _ => .loadP sz26 ag26 (lk 2 rfl rfl) rfl .nil (by first | rfl | omega) (ty_TRights.fl a1) rfl) ?_
  refine S.sil 11 rfl rfl (fun _ hF => .move (lk 5 rfl rfl)) ?_
  refine S.sil 12 rfl rfl (fun _ hF => .move (lk 7 rfl rfl)) ?_
  obtain ⟨r4, m4, h⟩ := h.bnd
  refine S.sil 13 rfl rfl (fun _ hF => .callQ ent152 cF (.c (lk 2 rfl rfl) (V.sub.refl _) (.c (lk 1 rfl rfl) (V.sub.refl _) (.c (lk 0 rfl rfl) (V.sub.refl _) .nil))) (C_rights_enough m4)) ?_
  refine S.sil 8 rfl rfl (fun _ hF => .assign (lk 0 rfl rfl)) ?_
  refine S.nil ?_
  refine thenQ_n ?_
  refine AWp.seq ?_
  refine W.reg [0] rfl ?_
  refine S.eff 9 rfl rfl (.nf (v2 := .ptr 2 [] 0) (H2 := [.cells (E_TRights a1), .cells (E_TRights (default : TRights)), .cells (E_A16_i64 (default : Vector Int 16))]) (.alloc zv23) rfl rfl) trivial ?_
  refine S.nil ?_
  refine thenQ_n ?_
  refine AWp.seq ?_
  refine AWp.seq ?_
  refine W.reg [0, 1] rfl ?_
  refine S.sil 14 rfl rfl (fun _ hF => .move (lk 1 rfl rfl)) ?_
  refine S.sil 15 rfl rfl (fun _ hF => .eql (lk 0 rfl rfl) cI) ?_
  refine S.nil ?_
  refine thenQ_n ?_
  refine AWp.condM (lk 0 rfl rfl) h (fun c1 h => ?_) (fun c1 h => ?_)
  · skip
    refine W.reg [0, 1, 2, 3, 4, 5, 6, 7, 8, 9] rfl ?_
    refine S.sil 17 rfl rfl (fun _ hF => .fieldAddr lay26 rfl rfl (lk 10 rfl rfl)) ?_
    refine S.qui 18 rfl rfl (fun _ => .loadP sz23 ag23 (lk 0 rfl rfl) rfl (.st rfl (flL_c (ty_A16_i64.fl a1.Given) flL_nil) .nil) (by first | rfl | omega) (ty_A16_i64.fl a1.Used) rfl) ?_
    refine S.sil 19 rfl rfl (fun _ hF => .move (lk 14 rfl rfl)) ?_
    refine S.sil 20 rfl rfl (fun _ hF => .move (lk 16 rfl rfl)) ?_
    obtain ⟨r5, m5, h⟩ := h.bnd
    refine S.sil 21 rfl rfl (fun _ hF => .callQ ent153 cF (.c (lk 2 rfl rfl) (V.sub.refl _) (.c (lk 1 rfl rfl) (V.sub.refl _) (.c (lk 0 rfl rfl) (V.sub.refl _) .nil))) (C_vec_Grow m5)) ?_
    refine S.sil 16 rfl rfl (fun _ hF => .move (lk 0 rfl rfl)) ?_
    refine S.sil 22 rfl rfl (fun _ hF => .extract (lk 0 rfl rfl) rfl) ?_
    refine S.sil 23 rfl rfl (fun _ hF => .extract (lk 1 rfl rfl) rfl) ?_
    refine S.effN rfl rfl (.nf (H2 := [.cells (E_TRights a1), .cells (E_TRights (default : TRights)), .cells (E_A16_i64 r5.1)]) (.storeP sz23 (lk 10 rfl rfl) (lk 1 rfl rfl) rfl (.refl _) rfl .nil (by first | rfl | omega) .nil (ty_A16_i64.fl r5.1) (ty_A16_i64.fl (default : Vector Int 16)) rfl) rfl rfl) trivial ?_
    refine S.sil 8 rfl rfl (fun _ hF => .assign (lk 0 rfl rfl)) ?_
    refine S.nil ?_
    refine thenQ_n ?_
    refine AWp.prune (.eq (lk 0 rfl rfl) rfl (.eq (lk 11 rfl rfl) rfl (.eq (lk 17 rfl rfl) rfl (.eq (lk 18 rfl rfl) rfl (.eq (lk 19 rfl rfl) rfl .nil))))) ?_
    refine AWp.seq ?_
    refine AWp.seq ?_
    refine W.reg [0, 1] rfl ?_
    refine S.sil 24 rfl rfl (fun _ hF => .move (lk 0 rfl rfl)) ?_
    refine S.sil 25 rfl rfl (fun _ hF => .neq (lk 0 rfl rfl) cI) ?_
    refine S.nil ?_
    refine thenQ_n ?_
    refine AWp.condM (lk 0 rfl rfl) h (fun c2 h => ?_) (fun c2 h => ?_)
    · skip
      refine AWp.seq ?_
      refine W.reg [0, 1, 2, 3] rfl ?_
      obtain ⟨v6, ev6, h⟩ := h.nam
      refine S.sil 26 rfl rfl (fun _ hF => .nv (.nv (v2 := E_TRights (⟨(default : Vector Int 16), (default : Vector Int 16), (default : Vector (Vector Int 16) 16)⟩ : TRights)) (.buildStW lay26 zv26 rfl .nil) rfl) (congrArg E_TRights ev6.symm)) ?_
      refine S.sil 27 rfl rfl (fun _ hF => .move (lk 3 rfl rfl)) ?_
      refine S.effN rfl rfl (.nf (H2 := [.cells (E_TRights a1), .cells (E_TRights v6), .cells (E_A16_i64 r5.1)]) (.storeP sz26 (lk 7 rfl rfl) (lk 1 rfl rfl) rfl (.refl _) rfl .nil (by first | rfl | omega) .nil (ty_TRights.fl v6) (ty_TRights.fl (default : TRights)) rfl) rfl rfl) trivial ?_
      refine S.sil 7 rfl rfl (fun _ hF => .assign (lk 0 rfl rfl)) ?_
      refine S.nil ?_
      refine thenQ_n ?_
      refine AWp.ret ?_
      refine thenQ_r ?_
      refine endF_wk (Wk.freeze 1 rfl rfl (.same (lk 0 rfl rfl) (.same (lk 0 rfl rfl) (.cons (lk 8 rfl rfl) rfl (.ptr .nil (by first | rfl | omega)) .nil))) (.refl _)) ?_
      obtain rfl := h.ret
      exact endFN rfl (Wk.selS [] .nil rfl (SelE.leaf (lk 2 rfl rfl) rfl (.refl _) (fun m => (lt_cptr (ty_TRights.lt _ _))) (SelE.leaf (lk 0 rfl rfl) rfl (.refl _) (fun m => ((TyOk.int .i64).lt _ _)) .nil)) .nil) (.cons (.cellC sz26 ag26 (lk 0 rfl rfl) (ty_TRights.fl _) rfl) (.cons (.tmp (lk 1 rfl rfl) rfl) .nil)) rfl rfl rfl
    · skip
      refine AWp.skip ?_
      refine thenQ_n ?_
      refine AWp.seq ?_
      refine W.reg [0, 1, 2] rfl ?_
      refine S.qui 28 rfl rfl (fun _ => .loadP sz23 ag23 (lk 3 rfl rfl) rfl .nil (by first | rfl | omega) (ty_A16_i64.fl r5.1) rfl) ?_
      refine S.sil 29 rfl rfl (fun _ hF => .fieldAddr lay26 rfl rfl (lk 7 rfl rfl)) ?_
      obtain ⟨v7, ev7, h⟩ := h.nam
      refine S.effN rfl rfl (.nf (H2 := [.cells (E_TRights v7), .cells (E_TRights (default : TRights)), .cells (E_A16_i64 r5.1)]) (.storeP sz23 (lk 0 rfl rfl) (lk 1 rfl rfl) rfl (.refl _) rfl (.st rfl (flL_c (ty_A16_i64.fl a1.Given) flL_nil) .nil) (by first | rfl | omega) (.st rfl .nil rfl) (ty_A16_i64.fl r5.1) (ty_A16_i64.fl a1.Used) (congrArg (fun z => ([AObj.cells (E_TRights z), .cells (E_TRights (default : TRights)), .cells (E_A16_i64 r5.1)] : List AObj)) ev7.symm)) rfl rfl) trivial ?_
      refine S.nil ?_
      refine thenQ_n ?_
      refine AWp.seq ?_
      refine W.reg [0, 1, 2] rfl ?_
      refine S.qui 30 rfl rfl (fun _ => .loadP sz26 ag26 (lk 8 rfl rfl) rfl .nil (by first | rfl | omega) (ty_TRights.fl v7) rfl) ?_
      refine S.effN rfl rfl (.nf (H2 := [.cells (E_TRights v7), .cells (E_TRights v7), .cells (E_A16_i64 r5.1)]) (.storeP sz26 (lk 8 rfl rfl) (lk 0 rfl rfl) rfl (.refl _) rfl .nil (by first | rfl | omega) .nil (ty_TRights.fl v7) (ty_TRights.fl (default : TRights)) rfl) rfl rfl) trivial ?_
      refine S.sil 7 rfl rfl (fun _ hF => .assign cI) ?_
      refine S.nil ?_
      refine thenQ_n ?_
      refine AWp.ret ?_
      refine endF_wk (Wk.freeze 1 rfl rfl (.same (lk 0 rfl rfl) (.same (lk 0 rfl rfl) (.cons (lk 9 rfl rfl) rfl (.ptr .nil (by first | rfl | omega)) .nil))) (.refl _)) ?_
      obtain rfl := h.ret
      exact endFN rfl (Wk.selS [] .nil rfl (SelE.leaf (lk 2 rfl rfl) rfl (.refl _) (fun m => (lt_cptr (ty_TRights.lt _ _))) (SelE.leaf (lk 0 rfl rfl) rfl (.refl _) (fun m => ((TyOk.int .i64).lt _ _)) .nil)) .nil) (.cons (.cellC sz26 ag26 (lk 0 rfl rfl) (ty_TRights.fl _) rfl) (.cons (.tmp (lk 1 rfl rfl) rfl) .nil)) rfl rfl rfl
  · skip
    refine AWp.skip ?_
    refine thenQ_n ?_
    refine AWp.seq ?_
    refine AWp.seq ?_
    refine W.reg [0, 1] rfl ?_
    refine S.sil 24 rfl rfl (fun _ hF => .move (lk 3 rfl rfl)) ?_
    refine S.sil 25 rfl rfl (fun _ hF => .neq (lk 0 rfl rfl) cI) ?_
    refine S.nil ?_
    refine thenQ_n ?_
    refine AWp.prune (.eq (lk 0 rfl rfl) rfl (.eq (lk 4 rfl rfl) rfl (.eq (lk 5 rfl rfl) rfl (.eq (lk 10 rfl rfl) rfl (.eq (lk 11 rfl rfl) rfl (.eq (lk 12 rfl rfl) rfl .nil)))))) ?_
    refine AWp.condM (lk 0 rfl rfl) h (fun c3 h => ?_) (fun c3 h => ?_)
    · skip
      refine AWp.seq ?_
      refine W.reg [0, 1, 2, 3] rfl ?_
      obtain ⟨v8, ev8, h⟩ := h.nam
      refine S.sil 26 rfl rfl (fun _ hF => .nv (.nv (v2 := E_TRights (⟨(default : Vector Int 16), (default : Vector Int 16), (default : Vector (Vector Int 16) 16)⟩ : TRights)) (.buildStW lay26 zv26 rfl .nil) rfl) (congrArg E_TRights ev8.symm)) ?_
      refine S.sil 27 rfl rfl (fun _ hF => .move (lk 3 rfl rfl)) ?_
      refine S.effN rfl rfl (.nf (H2 := [.cells (E_TRights a1), .cells (E_TRights v8), .cells (E_A16_i64 (default : Vector Int 16))]) (.storeP sz26 (lk 6 rfl rfl) (lk 1 rfl rfl) rfl (.refl _) rfl .nil (by first | rfl | omega) .nil (ty_TRights.fl v8) (ty_TRights.fl (default : TRights)) rfl) rfl rfl) trivial ?_
      refine S.sil 7 rfl rfl (fun _ hF => .assign (lk 0 rfl rfl)) ?_
      refine S.nil ?_
      refine thenQ_n ?_
      refine AWp.ret ?_
      refine thenQ_r ?_
      refine endF_wk (Wk.freeze 1 rfl rfl (.same (lk 0 rfl rfl) (.same (lk 0 rfl rfl) (.cons (lk 7 rfl rfl) rfl (.ptr .nil (by first | rfl | omega)) .nil))) (.refl _)) ?_
      obtain rfl := h.ret
      exact endFN rfl (Wk.selS [] .nil rfl (SelE.leaf (lk 2 rfl rfl) rfl (.refl _) (fun m => (lt_cptr (ty_TRights.lt _ _))) (SelE.leaf (lk 0 rfl rfl) rfl (.refl _) (fun m => ((TyOk.int .i64).lt _ _)) .nil)) .nil) (.cons (.cellC sz26 ag26 (lk 0 rfl rfl) (ty_TRights.fl _) rfl) (.cons (.tmp (lk 1 rfl rfl) rfl) .nil)) rfl rfl rfl
    · skip
      refine AWp.skip ?_
      refine thenQ_n ?_
      refine AWp.seq ?_
      refine W.reg [0, 1, 2] rfl ?_
      refine S.qui 28 rfl rfl (fun _ => .loadP sz23 ag23 (lk 1 rfl rfl) rfl .nil (by first | rfl | omega) (ty_A16_i64.fl (default : Vector Int 16)) rfl) ?_
      refine S.sil 29 rfl rfl (fun _ hF => .fieldAddr lay26 rfl rfl (lk 6 rfl rfl)) ?_
      obtain ⟨v9, ev9, h⟩ := h.nam
      refine S.effN rfl rfl (.nf (H2 := [.cells (E_TRights v9), .cells (E_TRights (default : TRights)), .cells (E_A16_i64 (default : Vector Int 16))]) (.storeP sz23 (lk 0 rfl rfl) (lk 1 rfl rfl) rfl (.refl _) rfl (.st rfl (flL_c (ty_A16_i64.fl a1.Given) flL_nil) .nil) (by first | rfl | omega) (.st rfl .nil rfl) (ty_A16_i64.fl (default : Vector Int 16)) (ty_A16_i64.fl a1.Used) (congrArg (fun z => ([AObj.cells (E_TRights z), .cells (E_TRights (default : TRights)), .cells (E_A16_i64 (default : Vector Int 16))] : List AObj)) ev9.symm)) rfl rfl) trivial ?_
      refine S.nil ?_
      refine thenQ_n ?_
      refine AWp.seq ?_
      refine W.reg [0, 1, 2] rfl ?_
      refine S.qui 30 rfl rfl (fun _ => .loadP sz26 ag26 (lk 7 rfl rfl) rfl .nil (by first | rfl | omega) (ty_TRights.fl v9) rfl) ?_
      refine S.effN rfl rfl (.nf (H2 := [.cells (E_TRights v9), .cells (E_TRights v9), .cells (E_A16_i64 (default : Vector Int 16))]) (.storeP sz26 (lk 7 rfl rfl) (lk 0 rfl rfl) rfl (.refl _) rfl .nil (by first | rfl | omega) .nil (ty_TRights.fl v9) (ty_TRights.fl (default : TRights)) rfl) rfl rfl) trivial ?_
      refine S.sil 7 rfl rfl (fun _ hF => .assign cI) ?_
      refine S.nil ?_
      refine thenQ_n ?_
      refine AWp.ret ?_
      refine endF_wk (Wk.freeze 1 rfl rfl (.same (lk 0 rfl rfl) (.same (lk 0 rfl rfl) (.cons (lk 8 rfl rfl) rfl (.ptr .nil (by first | rfl | omega)) .nil))) (.refl _)) ?_
      obtain rfl := h.ret
      exact endFN rfl (Wk.selS [] .nil rfl (SelE.leaf (lk 2 rfl rfl) rfl (.refl _) (fun m => (lt_cptr (ty_TRights.lt _ _))) (SelE.leaf (lk 0 rfl rfl) rfl (.refl _) (fun m => ((TyOk.int .i64).lt _ _)) .nil)) .nil) (.cons (.cellC sz26 ag26 (lk 0 rfl rfl) (ty_TRights.fl _) rfl) (.cons (.tmp (lk 1 rfl rfl) rfl) .nil)) rfl rfl rfl
theorem C_counter_Inc_1 {a1 : Int} {a2 : Int} {b3 : TCounter} {r : TRights × Int × TCounter} (h : counter_Inc_1 a1 a2 b3 = some r) : CallSpec Pg 113 [.ptr 0 [] 0, .cptr ((V.int .i64) a1), .cptr ((V.int .i64) a2)] [.cells (E_TCounter b3)] fun o H' => o = .ret (.tup [E_TRights r.1, (V.int .i64) r.2.1]) ∧ H' = [.cells (E_TCounter r.2.2)] := by
  refine CallSpec.of_bodyF 12 1 fn113 rfl rfl rfl (Nat.le_of_ble_eq_true rfl) ?_
  replace h := Ok.of h
  unfold counter_Inc_1 at h
  refine AWp.seq ?_
  refine W.reg [0, 1] rfl ?_
  refine S.eff 3 rfl rfl (.nf (v2 := .ptr 1 [] 0) (H2 := [.cells (E_TCounter b3), .cells (E_TRights (default : TRights))]) (.alloc zv26) rfl rfl) trivial ?_
  refine S.sil 4 rfl rfl (fun _ hF => .assign cI) ?_
  refine S.nil ?_
  refine thenQ_n ?_
  refine AWp.seq ?_
  refine W.reg [0, 1, 2, 3, 4, 5, 6, 7, 8] rfl ?_
  refine S.sil 5 rfl rfl (fun _ hF => .fieldAddr lay28 rfl rfl (lk 2 rfl rfl)) ?_
  refine S.qui 6 rfl rfl (fun _ => .loadP sz26 ag26 (lk 0 rfl rfl) rfl (.st rfl (flL_c (show flen _ = 1 from rfl) (flL_c (show flen _ = 1 from rfl) (flL_c (show flen _ = 1 from rfl) (flL_c (ty_TRights.fl b3.Down) flL_nil)))) .nil) (by first | rfl | omega) (ty_TRights.fl b3.Up) rfl) ?_
  refine S.sil 7 rfl rfl (fun _ hF => .loadC sz3 ag3 (lk 5 rfl rfl) rfl rfl) ?_
  refine S.sil 8 rfl rfl (fun _ hF => .loadC sz3 ag3 (lk 7 rfl rfl) rfl rfl) ?_
  obtain ⟨r4, m4, h⟩ := h.bnd
  refine S.sil 9 rfl rfl (fun _ hF => .callQ ent114 cF (.c (lk 2 rfl rfl) (V.sub.refl _) (.c (lk 1 rfl rfl) (V.sub.refl _) (.c (lk 0 rfl rfl) (V.sub.refl _) .nil))) (C_rights_Use m4)) ?_
  refine S.sil 10 rfl rfl (fun _ hF => .extract (lk 0 rfl rfl) rfl) ?_
  refine S.sil 11 rfl rfl (fun _ hF => .extract (lk 1 rfl rfl) rfl) ?_
  refine S.effN rfl rfl (.nf (H2 := [.cells (E_TCounter b3), .cells (E_TRights r4.1)]) (.storeP sz26 (lk 8 rfl rfl) (lk 1 rfl rfl) rfl (.refl _) rfl .nil (by first | rfl | omega) .nil (ty_TRights.fl r4.1) (ty_TRights.fl (default : TRights)) rfl) rfl rfl) trivial ?_
  refine S.sil 4 rfl rfl (fun _ hF => .assign (lk 0 rfl rfl)) ?_
  refine S.nil ?_
  refine thenQ_n ?_
  refine AWp.prune (.eq (lk 0 rfl rfl) rfl (.eq (lk 9 rfl rfl) rfl .nil)) ?_
  refine AWp.ret ?_
  refine endF_wk (Wk.freeze 1 rfl rfl (.same (lk 0 rfl rfl) (.cons (lk 1 rfl rfl) rfl (.ptr .nil (by first | rfl | omega)) .nil)) (.refl _)) ?_
  obtain rfl := h.ret
  exact endFN rfl (Wk.selS [0] (by decide) rfl (SelE.leaf (lk 1 rfl rfl) rfl (.refl _) (fun m => (lt_cptr (ty_TRights.lt _ _))) (SelE.leaf (lk 0 rfl rfl) rfl (.refl _) (fun m => ((TyOk.int .i64).lt _ _)) .nil)) (.cons (lt_cells (ty_TCounter.lt _ _)) rfl (RSub.trans (.refl _) (.eq (ty_TCounter.cl _ _).symm)) .nil)) (.cons (.cellC sz26 ag26 (lk 0 rfl rfl) (ty_TRights.fl _) rfl) (.cons (.tmp (lk 1 rfl rfl) rfl) .nil)) rfl rfl rfl
theorem C_rights_Give {a1 : TRights} {a2 : Int} {a3 : Int} {r : TRights × Int} (h : rights_Give a1 a2 a3 = some r) : PureC Pg 116 [E_TRights a1, (V.int .i64) a2, (V.int .i64) a3] (.tup [E_TRights r.1, (V.int .i64) r.2]) := by
  refine PureC.ofF (CallSpec.of_bodyF 25 0 fn116 rfl rfl rfl (Nat.le_of_ble_eq_true rfl) ?_) (ltL_c (ty_TRights.lt _ _) (ltL_c ((TyOk.int .i64).lt _ _) (ltL_c ((TyOk.int .i64).lt _ _) ltL_nil))) (lt_tup (ltL_c (ty_TRights.lt _ _) (ltL_c ((TyOk.int .i64).lt _ _) ltL_nil)))
  replace h := Ok.of h
  unfold rights_Give at h
  refine AWp.seq ?_
  refine W.reg [0, 1, 2] rfl ?_
  refine S.eff 3 rfl rfl (.nf (v2 := .ptr 0 [] 0) (H2 := [.cells (E_TRights a1)]) (.box (lk 0 rfl rfl) rfl) rfl rfl) trivial ?_
  refine S.eff 6 rfl rfl (.nf (v2 := .ptr 1 [] 0) (H2 := [.cells (E_TRights a1), .cells (E_TRights (default : TRights))]) (.alloc zv26) rfl rfl) trivial ?_
  refine S.sil 7 rfl rfl (fun _ hF => .assign cI) ?_
  refine S.nil ?_
  refine thenQ_n ?_
  refine AWp.seq ?_
  refine W.reg [0, 1, 2, 3, 4, 5, 6, 7, 8, 9, 10] rfl ?_
  refine S.sil 11 rfl rfl (fun _ hF => .fieldAddr lay26 rfl rfl (lk 2 rfl rfl)) ?_
  refine S.qui 12 rfl rfl (fun _ => .loadP sz23 ag23 (lk 0 rfl rfl) rfl (.st rfl flL_nil .nil) (by first | rfl | omega) (ty_A16_i64.fl a1.Given) rfl) ?_
  refine S.sil 13 rfl rfl (fun _ hF => .move (lk 6 rfl rfl)) ?_
  refine S.sil 14 rfl rfl (fun _ hF => .move (lk 8 rfl rfl)) ?_
  obtain ⟨r4, m4, h⟩ := h.bnd
  refine S.sil 15 rfl rfl (fun _ hF => .callQ ent153 cF (.c (lk 2 rfl rfl) (V.sub.refl _) (.c (lk 1 rfl rfl) (V.sub.refl _) (.c (lk 0 rfl rfl) (V.sub.refl _) .nil))) (C_vec_Grow m4)) ?_
  refine S.sil 10 rfl rfl (fun _ hF => .move (lk 0 rfl rfl)) ?_
  refine S.sil 16 rfl rfl (fun _ hF => .extract (lk 0 rfl rfl) rfl) ?_
  refine S.sil 17 rfl rfl (fun _ hF => .extract (lk 1 rfl rfl) rfl) ?_
  refine S.eff 8 rfl rfl (.nf (v2 := .ptr 2 [] 0) (H2 := [.cells (E_TRights a1), .cells (E_TRights (default : TRights)), .cells (E_A16_i64 (default : Vector Int 16))]) (.alloc zv23) rfl rfl) trivial ?_
  refine S.effN rfl rfl (.nf (H2 := [.cells (E_TRights a1), .cells (E_TRights (default : TRights)), .cells (E_A16_i64 r4.1)]) (.storeP sz23 (lk 0 rfl rfl) (lk 2 rfl rfl) rfl (.refl _) rfl .nil (by first | rfl | omega) .nil (ty_A16_i64.fl r4.1) (ty_A16_i64.fl (default : Vector Int 16)) rfl) rfl rfl) trivial ?_
  refine S.sil 9 rfl rfl (fun _ hF => .assign (lk 1 rfl rfl)) ?_
  refine S.nil ?_
  refine thenQ_n ?_
  refine AWp.wk (Wk.freeze 2 rfl rfl (.same (lk 0 rfl rfl) (.cons (lk 1 rfl rfl) rfl (.ptr .nil (by first | rfl | omega)) (.same (lk 10 rfl rfl) (.same (lk 11 rfl rfl) (.same (lk 12 rfl rfl) .nil))))) (.refl _)) ?_
  refine AWp.seq ?_
  refine AWp.seq ?_
  refine W.reg [0, 1] rfl ?_
  refine S.sil 18 rfl rfl (fun _ hF => .move (lk 0 rfl rfl)) ?_
  refine S.sil 19 rfl rfl (fun _ hF => .neq (lk 0 rfl rfl) cI) ?_
  refine S.nil ?_
  refine thenQ_n ?_
  refine AWp.condM (lk 0 rfl rfl) h (fun c1 h => ?_) (fun c1 h => ?_)
  · skip
    refine AWp.seq ?_
    refine W.reg [0, 1, 2, 3] rfl ?_
    obtain ⟨v5, ev5, h⟩ := h.nam
    refine S.sil 20 rfl rfl (fun _ hF => .nv (.nv (v2 := E_TRights (⟨(default : Vector Int 16), (default : Vector Int 16), (default : Vector (Vector Int 16) 16)⟩ : TRights)) (.buildStW lay26 zv26 rfl .nil) rfl) (congrArg E_TRights ev5.symm)) ?_
    refine S.sil 21 rfl rfl (fun _ hF => .move (lk 3 rfl rfl)) ?_
    refine S.effN rfl rfl (.nf (H2 := [.cells (E_TRights a1), .cells (E_TRights v5), .dead]) (.storeP sz26 (lk 7 rfl rfl) (lk 1 rfl rfl) rfl (.refl _) rfl .nil (by first | rfl | omega) .nil (ty_TRights.fl v5) (ty_TRights.fl (default : TRights)) rfl) rfl rfl) trivial ?_
    refine S.sil 7 rfl rfl (fun _ hF => .assign (lk 0 rfl rfl)) ?_
    refine S.nil ?_
    refine thenQ_n ?_
    refine AWp.ret ?_
    refine thenQ_r ?_
    refine endF_wk (Wk.freeze 1 rfl rfl (.same (lk 0 rfl rfl) (.same (lk 0 rfl rfl) (.cons (lk 8 rfl rfl) rfl (.ptr .nil (by first | rfl | omega)) .nil))) (.refl _)) ?_
    obtain rfl := h.ret
    exact endFN rfl (Wk.selS [] .nil rfl (SelE.leaf (lk 2 rfl rfl) rfl (.refl _) (fun m => (lt_cptr (ty_TRights.lt _ _))) (SelE.leaf (lk 0 rfl rfl) rfl (.refl _) (fun m => ((TyOk.int .i64).lt _ _)) .nil)) .nil) (.cons (.cellC sz26 ag26 (lk 0 rfl rfl) (ty_TRights.fl _) rfl) (.cons (.tmp (lk 1 rfl rfl) rfl) .nil)) rfl rfl rfl
  · skip
    refine AWp.skip ?_
    refine thenQ_n ?_
    refine AWp.seq ?_
    refine W.reg [0, 1, 2] rfl ?_
    refine S.sil 22 rfl rfl (fun _ hF => .loadC sz23 ag23 (lk 3 rfl rfl) (ty_A16_i64.fl r4.1) rfl) ?_
    refine S.sil 23 rfl rfl (fun _ hF => .fieldAddr lay26 rfl rfl (lk 7 rfl rfl)) ?_
    obtain ⟨v6, ev6, h⟩ := h.nam
    refine S.effN rfl rfl (.nf (H2 := [.cells (E_TRights v6), .cells (E_TRights (default : TRights)), .dead]) (.storeP sz23 (lk 0 rfl rfl) (lk 1 rfl rfl) rfl (.refl _) rfl (.st rfl flL_nil .nil) (by first | rfl | omega) (.st rfl .nil rfl) (ty_A16_i64.fl r4.1) (ty_A16_i64.fl a1.Given) (congrArg (fun z => ([AObj.cells (E_TRights z), .cells (E_TRights (default : TRights)), .dead] : List AObj)) ev6.symm)) rfl rfl) trivial ?_
    refine S.nil ?_
    refine thenQ_n ?_
    refine AWp.seq ?_
    refine W.reg [0, 1, 2] rfl ?_
    refine S.qui 24 rfl rfl (fun _ => .loadP sz26 ag26 (lk 8 rfl rfl) rfl .nil (by first | rfl | omega) (ty_TRights.fl v6) rfl) ?_
    refine S.effN rfl rfl (.nf (H2 := [.cells (E_TRights v6), .cells (E_TRights v6), .dead]) (.storeP sz26 (lk 8 rfl rfl) (lk 0 rfl rfl) rfl (.refl _) rfl .nil (by first | rfl | omega) .nil (ty_TRights.fl v6) (ty_TRights.fl (default : TRights)) rfl) rfl rfl) trivial ?_
    refine S.sil 7 rfl rfl (fun _ hF => .assign cI) ?_
    refine S.nil ?_
    refine thenQ_n ?_
    refine AWp.ret ?_
    refine endF_wk (Wk.freeze 1 rfl rfl (.same (lk 0 rfl rfl) (.same (lk 0 rfl rfl) (.cons (lk 9 rfl rfl) rfl (.ptr .nil (by first | rfl | omega)) .nil))) (.refl _)) ?_
    obtain rfl := h.ret
    exact endFN rfl (Wk.selS [] .nil rfl (SelE.leaf (lk 2 rfl rfl) rfl (.refl _) (fun m => (lt_cptr (ty_TRights.lt _ _))) (SelE.leaf (lk 0 rfl rfl) rfl (.refl _) (fun m => ((TyOk.int .i64).lt _ _)) .nil)) .nil) (.cons (.cellC sz26 ag26 (lk 0 rfl rfl) (ty_TRights.fl _) rfl) (.cons (.tmp (lk 1 rfl rfl) rfl) .nil)) rfl rfl rfl
theorem C_counter_Inc_2 {a1 : Int} {a2 : Int} {b3 : TCounter} {r : TRights × Int × TCounter} (h : counter_Inc_2 a1 a2 b3 = some r) : CallSpec Pg 115 [.ptr 0 [] 0, .cptr ((V.int .i64) a1), .cptr ((V.int .i64) a2)] [.cells (E_TCounter b3)] fun o H' => o = .ret (.tup [E_TRights r.1, (V.int .i64) r.2.1]) ∧ H' = [.cells (E_TCounter r.2.2)] := by
  refine CallSpec.of_bodyF 12 1 fn115 rfl rfl rfl (Nat.le_of_ble_eq_true rfl) ?_
  replace h := Ok.of h
  unfold counter_Inc_2 at h
  refine AWp.seq ?_
  refine W.reg [0, 1] rfl ?_
  refine S.eff 3 rfl rfl (.nf (v2 := .ptr 1 [] 0) (H2 := [.cells (E_TCounter b3), .cells (E_TRights (default : TRights))]) (.alloc zv26) rfl rfl) trivial ?_
  refine S.sil 4 rfl rfl (fun _ hF => .assign cI) ?_
  refine S.nil ?_
  refine thenQ_n ?_
  refine AWp.seq ?_
  refine W.reg [0, 1, 2, 3, 4, 5, 6, 7, 8] rfl ?_
  refine S.sil 5 rfl rfl (fun _ hF => .fieldAddr lay28 rfl rfl (lk 2 rfl rfl)) ?_
  refine S.qui 6 rfl rfl (fun _ => .loadP sz26 ag26 (lk 0 rfl rfl) rfl (.st rfl (flL_c (show flen _ = 1 from rfl) (flL_c (show flen _ = 1 from rfl) (flL_c (show flen _ = 1 from rfl) flL_nil))) .nil) (by first | rfl | omega) (ty_TRights.fl b3.Down) rfl) ?_
  refine S.sil 7 rfl rfl (fun _ hF => .loadC sz3 ag3 (lk 5 rfl rfl) rfl rfl) ?_
  refine S.sil 8 rfl rfl (fun _ hF => .loadC sz3 ag3 (lk 7 rfl rfl) rfl rfl) ?_
  obtain ⟨r4, m4, h⟩ := h.bnd
  refine S.sil 9 rfl rfl (fun _ hF => .callQ ent116 cF (.c (lk 2 rfl rfl) (V.sub.refl _) (.c (lk 1 rfl rfl) (V.sub.refl _) (.c (lk 0 rfl rfl) (V.sub.refl _) .nil))) (C_rights_Give m4)) ?_
  refine S.sil 10 rfl rfl (fun _ hF => .extract (lk 0 rfl rfl) rfl) ?_
  refine S.sil 11 rfl rfl (fun _ hF => .extract (lk 1 rfl rfl) rfl) ?_
  refine S.effN rfl rfl (.nf (H2 := [.cells (E_TCounter b3), .cells (E_TRights r4.1)]) (.storeP sz26 (lk 8 rfl rfl) (lk 1 rfl rfl) rfl (.refl _) rfl .nil (by first | rfl | omega) .nil (ty_TRights.fl r4.1) (ty_TRights.fl (default : TRights)) rfl) rfl rfl) trivial ?_
  refine S.sil 4 rfl rfl (fun _ hF => .assign (lk 0 rfl rfl)) ?_
  refine S.nil ?_
  refine thenQ_n ?_
  refine AWp.prune (.eq (lk 0 rfl rfl) rfl (.eq (lk 9 rfl rfl) rfl .nil)) ?_
  refine AWp.ret ?_
  refine endF_wk (Wk.freeze 1 rfl rfl (.same (lk 0 rfl rfl) (.cons (lk 1 rfl rfl) rfl (.ptr .nil (by first | rfl | omega)) .nil)) (.refl _)) ?_
  obtain rfl := h.ret
  exact endFN rfl (Wk.selS [0] (by decide) rfl (SelE.leaf (lk 1 rfl rfl) rfl (.refl _) (fun m => (lt_cptr (ty_TRights.lt _ _))) (SelE.leaf (lk 0 rfl rfl) rfl (.refl _) (fun m => ((TyOk.int .i64).lt _ _)) .nil)) (.cons (lt_cells (ty_TCounter.lt _ _)) rfl (RSub.trans (.refl _) (.eq (ty_TCounter.cl _ _).symm)) .nil)) (.cons (.cellC sz26 ag26 (lk 0 rfl rfl) (ty_TRights.fl _) rfl) (.cons (.tmp (lk 1 rfl rfl) rfl) .nil)) rfl rfl rfl
theorem C_counter_Inc_3 {a1 : TRights} {a2 : TRights} {b3 : TCounter} {r : TCounter} (h : counter_Inc_3 a1 a2 b3 = some r) : CallSpec Pg 117 [E_TRights a1, E_TRights a2, .ptr 0 [] 0] [.cells (E_TCounter b3)] fun o H' => o = .ret (.tup []) ∧ H' = [.cells (E_TCounter r)] := by
  refine CallSpec.of_bodyF 9 1 fn117 rfl rfl rfl (Nat.le_of_ble_eq_true rfl) ?_
  replace h := Ok.of h
  unfold counter_Inc_3 at h
  refine AWp.seq ?_
  refine W.reg [0, 1] rfl ?_
  refine S.eff 3 rfl rfl (.nf (v2 := .ptr 1 [] 0) (H2 := [.cells (E_TCounter b3), .cells (E_TRights a1)]) (.box (lk 0 rfl rfl) rfl) rfl rfl) trivial ?_
  refine S.eff 4 rfl rfl (.nf (v2 := .ptr 2 [] 0) (H2 := [.cells (E_TCounter b3), .cells (E_TRights a1), .cells (E_TRights a2)]) (.box (lk 2 rfl rfl) rfl) rfl rfl) trivial ?_
  refine S.nil ?_
  refine thenQ_n ?_
  refine AWp.wk (Wk.freeze 1 rfl rfl (.same (lk 0 rfl rfl) (.cons (lk 1 rfl rfl) rfl (.ptr .nil (by first | rfl | omega)) (.same (lk 4 rfl rfl) .nil))) (.refl _)) ?_
  refine AWp.wk (Wk.freeze 2 rfl rfl (.cons (lk 0 rfl rfl) rfl (.ptr .nil (by first | rfl | omega)) (.same (lk 1 rfl rfl) (.same (lk 2 rfl rfl) .nil))) (.refl _)) ?_
  refine W.regD [0, 1, 2, 3, 4, 5] mixed ?_
  refine S.sil 5 rfl rfl (fun _ hF => .loadC sz26 ag26 (lk 1 rfl rfl) (ty_TRights.fl a1) rfl) ?_
  refine S.sil 6 rfl rfl (fun _ hF => .loadC sz26 ag26 (lk 1 rfl rfl) (ty_TRights.fl a2) rfl) ?_
  refine S.sil 7 rfl rfl (fun _ hF => .fieldAddr lay28 rfl rfl (lk 4 rfl rfl)) ?_
  obtain ⟨v4, ev4, h⟩ := h.nam
  refine S.effN rfl rfl (.storeP sz26 (lk 0 rfl rfl) (lk 2 rfl rfl) rfl (.refl _) rfl (.st rfl (flL_c (show flen _ = 1 from rfl) (flL_c (show flen _ = 1 from rfl) (flL_c (show flen _ = 1 from rfl) (flL_c (ty_TRights.fl b3.Down) flL_nil)))) .nil) (by first | rfl | omega) (.st rfl .nil rfl) (ty_TRights.fl a1) (ty_TRights.fl b3.Up) (congrArg (fun z => ([AObj.cells (E_TCounter z), .dead, .dead] : List AObj)) ev4.symm)) trivial ?_
  refine S.sil 8 rfl rfl (fun _ hF => .fieldAddr lay28 rfl rfl (lk 5 rfl rfl)) ?_
  obtain ⟨v5, ev5, h⟩ := h.nam
  refine S.effN rfl rfl (.storeP sz26 (lk 0 rfl rfl) (lk 2 rfl rfl) rfl (.refl _) rfl (.st rfl (flL_c (show flen _ = 1 from rfl) (flL_c (show flen _ = 1 from rfl) (flL_c (show flen _ = 1 from rfl) flL_nil))) .nil) (by first | rfl | omega) (.st rfl .nil rfl) (ty_TRights.fl a2) (ty_TRights.fl v4.Down) (congrArg (fun z => ([AObj.cells (E_TCounter z), .dead, .dead] : List AObj)) ev5.symm)) trivial ?_
  refine S.nilD (by kernel_rfl) ?_
  refine endF_n ?_
  obtain rfl := h.ret
  exact endFN rfl (Wk.selS [0] (by decide) rfl .nil (.cons (lt_cells (ty_TCounter.lt _ _)) rfl (RSub.trans (.refl _) (.eq (ty_TCounter.cl _ _).symm)) .nil)) .nil rfl rfl rfl
theorem C_counter_both_Inc_1_Inc_2_Inc_3 {a1 : TCounter} {a2 : Int} {a3 : Int} {a4 : Int} {a5 : Int} {b6 : TCounter} {r : Int × TCounter} (h : counter_both_Inc_1_Inc_2_Inc_3 a1 a2 a3 a4 a5 b6 = some r) : CallSpec Pg 112 [E_TCounter a1, .fn 113 [] [.ptr 0 [] 0, .cptr ((V.int .i64) a2), .cptr ((V.int .i64) a3)], .fn 115 [] [.ptr 0 [] 0, .cptr ((V.int .i64) a4), .cptr ((V.int .i64) a5)], .fn 117 [] [.ptr 0 [] 0]] [.cells (E_TCounter b6)] fun o H' => o = .ret ((V.int .i64) r.1) ∧ H' = [.cells (E_TCounter r.2)] := by
  refine CallSpec.of_bodyF 32 1 fn112 rfl rfl rfl (Nat.le_of_ble_eq_true rfl) ?_
  replace h := Ok.of h
  unfold counter_both_Inc_1_Inc_2_Inc_3 at h
  refine AWp.seq ?_
  refine W.reg [0, 1] rfl ?_
  refine S.eff 4 rfl rfl (.nf (v2 := .ptr 1 [] 0) (H2 := [.cells (E_TCounter b6), .cells (E_TCounter a1)]) (.box (lk 0 rfl rfl) rfl) rfl rfl) trivial ?_
  refine S.sil 8 rfl rfl (fun _ hF => .assign cI) ?_
  refine S.nil ?_
  refine thenQ_n ?_
  refine AWp.wk (Wk.freeze 1 rfl rfl (.same (lk 0 rfl rfl) (.same (lk 3 rfl rfl) (.same (lk 4 rfl rfl) (.same (lk 5 rfl rfl) .nil)))) (.refl _)) ?_
  refine AWp.seq ?_
  refine W.reg [0, 1, 2, 3, 4, 5, 6, 7] rfl ?_
  refine S.sil 13 rfl rfl (fun _ hF => .move (lk 1 rfl rfl)) ?_
  obtain ⟨r7, m7, h⟩ := h.bnd
  refine S.eff 14 rfl rfl (.nf (v2 := .tup [E_TRights r7.1, (V.int .i64) r7.2.1]) (H2 := [.cells (E_TCounter r7.2.2), .dead]) (.callH ent113 (lk 0 rfl rfl) [0] (C_counter_Inc_1 m7) (by decide) (.cons (lt_cells (ty_TCounter.lt _ _)) rfl (RSub.trans (.refl _) (.eq (ty_TCounter.cl _ _).symm)) .nil) (ltL_c rfl (ltL_c (lt_cptr ((TyOk.int .i64).lt _ _)) (ltL_c (lt_cptr ((TyOk.int .i64).lt _ _)) ltL_nil))) (.cons (subren rfl) (.cons (vsubr (V.sub.refl _) (lt_cptr ((TyOk.int .i64).lt _ _))) (.cons (vsubr (V.sub.refl _) (lt_cptr ((TyOk.int .i64).lt _ _))) .nil))) (ren_tup (renL_c (ty_TRights.cl _ _) (renL_c ((TyOk.int .i64).cl _ _) rfl))) (mapc (ren_cells (ty_TCounter.cl _ _)) rfl) rfl) rfl rfl) trivial ?_
  refine S.sil 12 rfl rfl (fun _ hF => .move (lk 0 rfl rfl)) ?_
  refine S.sil 15 rfl rfl (fun _ hF => .extract (lk 0 rfl rfl) rfl) ?_
  refine S.sil 16 rfl rfl (fun _ hF => .extract (lk 1 rfl rfl) rfl) ?_
  refine S.eff 9 rfl rfl (.nf (v2 := .ptr 2 [] 0) (H2 := [.cells (E_TCounter r7.2.2), .dead, .cells (E_TRights (default : TRights))]) (.alloc zv26) rfl rfl) trivial ?_
  refine S.effN rfl rfl (.nf (H2 := [.cells (E_TCounter r7.2.2), .dead, .cells (E_TRights r7.1)]) (.storeP sz26 (lk 0 rfl rfl) (lk 2 rfl rfl) rfl (.refl _) rfl .nil (by first | rfl | omega) .nil (ty_TRights.fl r7.1) (ty_TRights.fl (default : TRights)) rfl) rfl rfl) trivial ?_
  refine S.sil 10 rfl rfl (fun _ hF => .assign (lk 1 rfl rfl)) ?_
  refine S.nil ?_
  refine thenQ_n ?_
  refine AWp.wk (Wk.freeze 2 rfl rfl (.same (lk 0 rfl rfl) (.cons (lk 1 rfl rfl) rfl (.ptr .nil (by first | rfl | omega)) (.same (lk 7 rfl rfl) (.same (lk 9 rfl rfl) (.same (lk 10 rfl rfl) .nil))))) (.refl _)) ?_
  refine AWp.seq ?_
  refine AWp.seq ?_
  refine W.reg [0, 1] rfl ?_
  refine S.sil 17 rfl rfl (fun _ hF => .move (lk 0 rfl rfl)) ?_
  refine S.sil 18 rfl rfl (fun _ hF => .neq (lk 0 rfl rfl) cI) ?_
  refine S.nil ?_
  refine thenQ_n ?_
  refine AWp.condM (lk 0 rfl rfl) h (fun c1 h => ?_) (fun c1 h => ?_)
  · skip
    refine AWp.seq ?_
    refine W.reg [0, 1] rfl ?_
    refine S.sil 19 rfl rfl (fun _ hF => .move (lk 2 rfl rfl)) ?_
    refine S.sil 8 rfl rfl (fun _ hF => .assign (lk 0 rfl rfl)) ?_
    refine S.nil ?_
    refine thenQ_n ?_
    refine AWp.ret ?_
    refine thenQ_r ?_
    obtain rfl := h.ret
    exact endF1 rfl (Wk.selS [0] (by decide) rfl (SelE.leaf (lk 0 rfl rfl) rfl (.refl _) (fun m => ((TyOk.int .i64).lt _ _)) .nil) (.cons (lt_cells (ty_TCounter.lt _ _)) rfl (RSub.trans (.refl _) (.eq (ty_TCounter.cl _ _).symm)) .nil)) (.tmp (lk 0 rfl rfl) rfl) rfl rfl
  · skip
    refine AWp.skip ?_
    refine thenQ_n ?_
    refine AWp.seq ?_
    refine W.reg [0, 1, 2, 3, 4, 5, 6, 7] rfl ?_
    refine S.sil 21 rfl rfl (fun _ hF => .move (lk 5 rfl rfl)) ?_
    obtain ⟨r8, m8, h⟩ := h.bnd
    refine S.eff 22 rfl rfl (.nf (v2 := .tup [E_TRights r8.1, (V.int .i64) r8.2.1]) (H2 := [.cells (E_TCounter r8.2.2), .dead, .dead]) (.callH ent115 (lk 0 rfl rfl) [0] (C_counter_Inc_2 m8) (by decide) (.cons (lt_cells (ty_TCounter.lt _ _)) rfl (RSub.trans (.refl _) (.eq (ty_TCounter.cl _ _).symm)) .nil) (ltL_c rfl (ltL_c (lt_cptr ((TyOk.int .i64).lt _ _)) (ltL_c (lt_cptr ((TyOk.int .i64).lt _ _)) ltL_nil))) (.cons (subren rfl) (.cons (vsubr (V.sub.refl _) (lt_cptr ((TyOk.int .i64).lt _ _))) (.cons (vsubr (V.sub.refl _) (lt_cptr ((TyOk.int .i64).lt _ _))) .nil))) (ren_tup (renL_c (ty_TRights.cl _ _) (renL_c ((TyOk.int .i64).cl _ _) rfl))) (mapc (ren_cells (ty_TCounter.cl _ _)) rfl) rfl) rfl rfl) trivial ?_
    refine S.sil 20 rfl rfl (fun _ hF => .move (lk 0 rfl rfl)) ?_
    refine S.sil 23 rfl rfl (fun _ hF => .extract (lk 0 rfl rfl) rfl) ?_
    refine S.sil 24 rfl rfl (fun _ hF => .extract (lk 1 rfl rfl) rfl) ?_
    refine S.eff 11 rfl rfl (.nf (v2 := .ptr 3 [] 0) (H2 := [.cells (E_TCounter r8.2.2), .dead, .dead, .cells (E_TRights (default : TRights))]) (.alloc zv26) rfl rfl) trivial ?_
    refine S.effN rfl rfl (.nf (H2 := [.cells (E_TCounter r8.2.2), .dead, .dead, .cells (E_TRights r8.1)]) (.storeP sz26 (lk 0 rfl rfl) (lk 2 rfl rfl) rfl (.refl _) rfl .nil (by first | rfl | omega) .nil (ty_TRights.fl r8.1) (ty_TRights.fl (default : TRights)) rfl) rfl rfl) trivial ?_
    refine S.sil 10 rfl rfl (fun _ hF => .assign (lk 1 rfl rfl)) ?_
    refine S.nil ?_
    refine thenQ_n ?_
    refine AWp.wk (Wk.freeze 3 rfl rfl (.same (lk 0 rfl rfl) (.cons (lk 1 rfl rfl) rfl (.ptr .nil (by first | rfl | omega)) (.same (lk 10 rfl rfl) (.same (lk 11 rfl rfl) (.same (lk 13 rfl rfl) .nil))))) (.refl _)) ?_
    refine AWp.seq ?_
    refine AWp.seq ?_
    refine W.reg [0, 1] rfl ?_
    refine S.sil 25 rfl rfl (fun _ hF => .move (lk 0 rfl rfl)) ?_
    refine S.sil 26 rfl rfl (fun _ hF => .eql (lk 0 rfl rfl) cI) ?_
    refine S.nil ?_
    refine thenQ_n ?_
    refine AWp.condM (lk 0 rfl rfl) h (fun c2 h => ?_) (fun c2 h => ?_)
    · skip
      refine W.reg [0, 1, 2, 3] rfl ?_
      refine S.sil 27 rfl rfl (fun _ hF => .move (lk 6 rfl rfl)) ?_
      refine S.sil 28 rfl rfl (fun _ hF => .loadC sz26 ag26 (lk 5 rfl rfl) (ty_TRights.fl r7.1) rfl) ?_
      refine S.sil 29 rfl rfl (fun _ hF => .loadC sz26 ag26 (lk 5 rfl rfl) (ty_TRights.fl r8.1) rfl) ?_
      obtain ⟨r9, m9, h⟩ := h.bnd
      refine S.eff 30 rfl rfl (.nf (H2 := [.cells (E_TCounter r9), .dead, .dead, .dead]) (.callH ent117 (lk 2 rfl rfl) [0] (C_counter_Inc_3 m9) (by decide) (.cons (lt_cells (ty_TCounter.lt _ _)) rfl (RSub.trans (.refl _) (.eq (ty_TCounter.cl _ _).symm)) .nil) (ltL_c (ty_TRights.lt _ _) (ltL_c (ty_TRights.lt _ _) (ltL_c rfl ltL_nil))) (.c (lk 1 rfl rfl) (vsubr (V.sub.refl _) (ty_TRights.lt _ _)) (.c (lk 0 rfl rfl) (vsubr (V.sub.refl _) (ty_TRights.lt _ _)) (.cons (subren rfl) .nil))) (ren_tup rfl) (mapc (ren_cells (ty_TCounter.cl _ _)) rfl) rfl) rfl rfl) trivial ?_
      refine S.nil ?_
      refine thenQ_n ?_
      refine AWp.seq ?_
      refine W.reg [0, 1] rfl ?_
      refine S.sil 31 rfl rfl (fun _ hF => .move (lk 6 rfl rfl)) ?_
      refine S.sil 8 rfl rfl (fun _ hF => .assign (lk 0 rfl rfl)) ?_
      refine S.nil ?_
      refine thenQ_n ?_
      refine AWp.prune (.eq (lk 0 rfl rfl) rfl .nil) ?_
      refine AWp.ret ?_
      obtain rfl := h.ret
      exact endF1 rfl (Wk.selS [0] (by decide) rfl (SelE.leaf (lk 0 rfl rfl) rfl (.refl _) (fun m => ((TyOk.int .i64).lt _ _)) .nil) (.cons (lt_cells (ty_TCounter.lt _ _)) rfl (RSub.trans (.refl _) (.eq (ty_TCounter.cl _ _).symm)) .nil)) (.tmp (lk 0 rfl rfl) rfl) rfl rfl
    · skip
      refine AWp.skip ?_
      refine thenQ_n ?_
      refine AWp.seq ?_
      refine W.reg [0, 1] rfl ?_
      refine S.sil 31 rfl rfl (fun _ hF => .move (lk 2 rfl rfl)) ?_
      refine S.sil 8 rfl rfl (fun _ hF => .assign (lk 0 rfl rfl)) ?_
      refine S.nil ?_
      refine thenQ_n ?_
      refine AWp.ret ?_
      obtain rfl := h.ret
      exact endF1 rfl (Wk.selS [0] (by decide) rfl (SelE.leaf (lk 0 rfl rfl) rfl (.refl _) (fun m => ((TyOk.int .i64).lt _ _)) .nil) (.cons (lt_cells (ty_TCounter.lt _ _)) rfl (RSub.trans (.refl _) (.eq (ty_TCounter.cl _ _).symm)) .nil)) (.tmp (lk 0 rfl rfl) rfl) rfl rfl
theorem C_counter_done {a1 : TCounter} {a2 : Int} {r : TCounter × Int} (h : counter_done a1 a2 = some r) : PureC Pg 118 [E_TCounter a1, (V.int .i64) a2] (.tup [E_TCounter r.1, (V.int .i64) r.2]) := by
  refine PureC.ofF (CallSpec.of_bodyF 11 0 fn118 rfl rfl rfl (Nat.le_of_ble_eq_true rfl) ?_) (ltL_c (ty_TCounter.lt _ _) (ltL_c ((TyOk.int .i64).lt _ _) ltL_nil)) (lt_tup (ltL_c (ty_TCounter.lt _ _) (ltL_c ((TyOk.int .i64).lt _ _) ltL_nil)))
  replace h := Ok.of h
  unfold counter_done at h
  refine AWp.seq ?_
  refine W.reg [0, 1, 2] rfl ?_
  refine S.eff 2 rfl rfl (.nf (v2 := .ptr 0 [] 0) (H2 := [.cells (E_TCounter a1)]) (.box (lk 0 rfl rfl) rfl) rfl rfl) trivial ?_
  refine S.eff 4 rfl rfl (.nf (v2 := .ptr 1 [] 0) (H2 := [.cells (E_TCounter a1), .cells (E_TCounter (default : TCounter))]) (.alloc zv28) rfl rfl) trivial ?_
  refine S.sil 5 rfl rfl (fun _ hF => .assign cI) ?_
  refine S.nil ?_
  refine thenQ_n ?_
  refine AWp.wk (Wk.freeze 0 rfl rfl (.same (lk 0 rfl rfl) (.same (lk 1 rfl rfl) (.cons (lk 2 rfl rfl) rfl (.ptr .nil (by first | rfl | omega)) (.same (lk 4 rfl rfl) .nil)))) (.refl _)) ?_
  refine AWp.seq ?_
  refine AWp.seq ?_
  refine W.reg [0, 1] rfl ?_
  refine S.sil 6 rfl rfl (fun _ hF => .move (lk 3 rfl rfl)) ?_
  refine S.sil 7 rfl rfl (fun _ hF => .neq (lk 0 rfl rfl) cI) ?_
  refine S.nil ?_
  refine thenQ_n ?_
  refine AWp.condM (lk 0 rfl rfl) h (fun c1 h => ?_) (fun c1 h => ?_)
  · skip
    refine AWp.seq ?_
    refine W.reg [0, 1, 2, 3] rfl ?_
    obtain ⟨v3, ev3, h⟩ := h.nam
    refine S.sil 8 rfl rfl (fun _ hF => .nv (.nv (v2 := E_TCounter (⟨0, 0, 0, (default : TRights), (default : TRights)⟩ : TCounter)) (.buildStW lay28 zv28 rfl .nil) rfl) (congrArg E_TCounter ev3.symm)) ?_
    refine S.sil 9 rfl rfl (fun _ hF => .move (lk 6 rfl rfl)) ?_
    refine S.effN rfl rfl (.nf (H2 := [.dead, .cells (E_TCounter v3)]) (.storeP sz28 (lk 5 rfl rfl) (lk 1 rfl rfl) rfl (.refl _) rfl .nil (by first | rfl | omega) .nil (ty_TCounter.fl v3) (ty_TCounter.fl (default : TCounter)) rfl) rfl rfl) trivial ?_
    refine S.sil 5 rfl rfl (fun _ hF => .assign (lk 0 rfl rfl)) ?_
    refine S.nil ?_
    refine thenQ_n ?_
    refine AWp.ret ?_
    refine thenQ_r ?_
    refine endF_wk (Wk.freeze 1 rfl rfl (.same (lk 0 rfl rfl) (.same (lk 0 rfl rfl) (.cons (lk 6 rfl rfl) rfl (.ptr .nil (by first | rfl | omega)) .nil))) (.refl _)) ?_
    obtain rfl := h.ret
    exact endFN rfl (Wk.selS [] .nil rfl (SelE.leaf (lk 2 rfl rfl) rfl (.refl _) (fun m => (lt_cptr (ty_TCounter.lt _ _))) (SelE.leaf (lk 0 rfl rfl) rfl (.refl _) (fun m => ((TyOk.int .i64).lt _ _)) .nil)) .nil) (.cons (.cellC sz28 ag28 (lk 0 rfl rfl) (ty_TCounter.fl _) rfl) (.cons (.tmp (lk 1 rfl rfl) rfl) .nil)) rfl rfl rfl
  · skip
    refine AWp.skip ?_
    refine thenQ_n ?_
    refine AWp.seq ?_
    refine W.reg [0, 1, 2] rfl ?_
    refine S.sil 10 rfl rfl (fun _ hF => .loadC sz28 ag28 (lk 4 rfl rfl) (ty_TCounter.fl a1) rfl) ?_
    refine S.effN rfl rfl (.nf (H2 := [.dead, .cells (E_TCounter a1)]) (.storeP sz28 (lk 4 rfl rfl) (lk 0 rfl rfl) rfl (.refl _) rfl .nil (by first | rfl | omega) .nil (ty_TCounter.fl a1) (ty_TCounter.fl (default : TCounter)) rfl) rfl rfl) trivial ?_
    refine S.sil 5 rfl rfl (fun _ hF => .assign cI) ?_
    refine S.nil ?_
    refine thenQ_n ?_
    refine AWp.ret ?_
    refine endF_wk (Wk.freeze 1 rfl rfl (.same (lk 0 rfl rfl) (.same (lk 0 rfl rfl) (.cons (lk 5 rfl rfl) rfl (.ptr .nil (by first | rfl | omega)) .nil))) (.refl _)) ?_
    obtain rfl := h.ret
    exact endFN rfl (Wk.selS [] .nil rfl (SelE.leaf (lk 2 rfl rfl) rfl (.refl _) (fun m => (lt_cptr (ty_TCounter.lt _ _))) (SelE.leaf (lk 0 rfl rfl) rfl (.refl _) (fun m => ((TyOk.int .i64).lt _ _)) .nil)) .nil) (.cons (.cellC sz28 ag28 (lk 0 rfl rfl) (ty_TCounter.fl _) rfl) (.cons (.tmp (lk 1 rfl rfl) rfl) .nil)) rfl rfl rfl
theorem C_counter_Inc {a1 : TCounter} {a2 : Int} {a3 : Int} {r : TCounter × Int} (h : counter_Inc a1 a2 a3 = some r) : PureC Pg 62 [E_TCounter a1, (V.int .i64) a2, (V.int .i64) a3] (.tup [E_TCounter r.1, (V.int .i64) r.2]) := by
  refine PureC.ofF (CallSpec.of_bodyF 19 0 fn62 rfl rfl rfl (Nat.le_of_ble_eq_true rfl) ?_) (ltL_c (ty_TCounter.lt _ _) (ltL_c ((TyOk.int .i64).lt _ _) (ltL_c ((TyOk.int .i64).lt _ _) ltL_nil))) (lt_tup (ltL_c (ty_TCounter.lt _ _) (ltL_c ((TyOk.int .i64).lt _ _) ltL_nil)))
  replace h := Ok.of h
  unfold counter_Inc at h
  refine AWp.seq ?_
  refine W.reg [0, 1, 2, 3, 4] rfl ?_
  refine S.eff 3 rfl rfl (.nf (v2 := .ptr 0 [] 0) (H2 := [.cells (E_TCounter a1)]) (.box (lk 0 rfl rfl) rfl) rfl rfl) trivial ?_
  refine S.eff 4 rfl rfl (.nf (v2 := .ptr 1 [] 0) (H2 := [.cells (E_TCounter a1), .cells ((V.int .i64) a2)]) (.box (lk 2 rfl rfl) rfl) rfl rfl) trivial ?_
  refine S.eff 5 rfl rfl (.nf (v2 := .ptr 2 [] 0) (H2 := [.cells (E_TCounter a1), .cells ((V.int .i64) a2), .cells ((V.int .i64) a3)]) (.box (lk 4 rfl rfl) rfl) rfl rfl) trivial ?_
  refine S.eff 6 rfl rfl (.nf (v2 := .ptr 3 [] 0) (H2 := [.cells (E_TCounter a1), .cells ((V.int .i64) a2), .cells ((V.int .i64) a3), .cells (E_TCounter (default : TCounter))]) (.alloc zv28) rfl rfl) trivial ?_
  refine S.sil 7 rfl rfl (fun _ hF => .assign cI) ?_
  refine S.nil ?_
  refine thenQ_n ?_
  refine AWp.wk (Wk.freeze 1 rfl rfl (.same (lk 0 rfl rfl) (.same (lk 1 rfl rfl) (.same (lk 2 rfl rfl) (.cons (lk 3 rfl rfl) rfl (.ptr .nil (by first | rfl | omega)) (.same (lk 4 rfl rfl) .nil))))) (.refl _)) ?_
  refine AWp.wk (Wk.freeze 2 rfl rfl (.same (lk 0 rfl rfl) (.same (lk 1 rfl rfl) (.cons (lk 2 rfl rfl) rfl (.ptr .nil (by first | rfl | omega)) (.same (lk 3 rfl rfl) (.same (lk 4 rfl rfl) .nil))))) (.refl _)) ?_
  refine AWp.seq ?_
  refine W.reg [0, 1, 2, 3, 4, 5] rfl ?_
  refine S.qui 9 rfl rfl (fun _ => .loadP sz28 ag28 (lk 4 rfl rfl) rfl .nil (by first | rfl | omega) (ty_TCounter.fl a1) rfl) ?_
  refine S.sil 10 rfl rfl (fun _ hF => .makeFunc rfl (mapE3 (lk 5 rfl rfl) (lk 4 rfl rfl) (lk 3 rfl rfl)) rfl rfl) ?_
  refine S.sil 11 rfl rfl (fun _ hF => .makeFunc rfl (mapE3 (lk 6 rfl rfl) (lk 5 rfl rfl) (lk 4 rfl rfl)) rfl rfl) ?_
  refine S.sil 12 rfl rfl (fun _ hF => .makeFunc rfl (mapE1 (lk 7 rfl rfl)) rfl rfl) ?_
  obtain ⟨r4, m4, h⟩ := h.bnd
  refine S.eff 13 rfl rfl (.nf (v2 := (V.int .i64) r4.1) (H2 := [.cells (E_TCounter r4.2), .dead, .dead, .cells (E_TCounter (default : TCounter))]) (.callH ent112 cF [0] (C_counter_both_Inc_1_Inc_2_Inc_3 m4) (by decide) (.cons (lt_cells (ty_TCounter.lt _ _)) rfl (RSub.trans (.refl _) (.eq (ty_TCounter.cl _ _).symm)) .nil) (ltL_c (ty_TCounter.lt _ _) (ltL_c (lt_fn ltL_nil (ltL_c rfl (ltL_c (lt_cptr ((TyOk.int .i64).lt _ _)) (ltL_c (lt_cptr ((TyOk.int .i64).lt _ _)) ltL_nil)))) (ltL_c (lt_fn ltL_nil (ltL_c rfl (ltL_c (lt_cptr ((TyOk.int .i64).lt _ _)) (ltL_c (lt_cptr ((TyOk.int .i64).lt _ _)) ltL_nil)))) (ltL_c (lt_fn ltL_nil (ltL_c rfl ltL_nil)) ltL_nil)))) (.c (lk 3 rfl rfl) (vsubr (V.sub.refl _) (ty_TCounter.lt _ _)) (.c (lk 2 rfl rfl) (subren (ren_fn rfl (renL_c rfl (renL_c (ren_cptr ((TyOk.int .i64).cl _ _)) (renL_c (ren_cptr ((TyOk.int .i64).cl _ _)) rfl))))) (.c (lk 1 rfl rfl) (subren (ren_fn rfl (renL_c rfl (renL_c (ren_cptr ((TyOk.int .i64).cl _ _)) (renL_c (ren_cptr ((TyOk.int .i64).cl _ _)) rfl))))) (.c (lk 0 rfl rfl) (subren (ren_fn rfl (renL_c rfl rfl))) .nil)))) ((TyOk.int .i64).cl _ _) (mapc (ren_cells (ty_TCounter.cl _ _)) rfl) rfl) rfl rfl) trivial ?_
  refine S.sil 8 rfl rfl (fun _ hF => .assign (lk 0 rfl rfl)) ?_
  refine S.nil ?_
  refine thenQ_n ?_
  refine AWp.seq ?_
  refine W.reg [0, 1, 2, 3, 4, 5, 6] rfl ?_
  refine S.qui 14 rfl rfl (fun _ => .loadP sz28 ag28 (lk 10 rfl rfl) rfl .nil (by first | rfl | omega) (ty_TCounter.fl r4.2) rfl) ?_
  refine S.sil 15 rfl rfl (fun _ hF => .move (lk 1 rfl rfl)) ?_
  obtain ⟨r5, m5, h⟩ := h.bnd
  refine S.sil 16 rfl rfl (fun _ hF => .callQ ent118 cF (.c (lk 1 rfl rfl) (V.sub.refl _) (.c (lk 0 rfl rfl) (V.sub.refl _) .nil)) (C_counter_done m5)) ?_
  refine S.sil 17 rfl rfl (fun _ hF => .extract (lk 0 rfl rfl) rfl) ?_
  refine S.sil 18 rfl rfl (fun _ hF => .extract (lk 1 rfl rfl) rfl) ?_
  refine S.effN rfl rfl (.nf (H2 := [.cells (E_TCounter r4.2), .dead, .dead, .cells (E_TCounter r5.1)]) (.storeP sz28 (lk 12 rfl rfl) (lk 1 rfl rfl) rfl (.refl _) rfl .nil (by first | rfl | omega) .nil (ty_TCounter.fl r5.1) (ty_TCounter.fl (default : TCounter)) rfl) rfl rfl) trivial ?_
  refine S.sil 7 rfl rfl (fun _ hF => .assign (lk 0 rfl rfl)) ?_
  refine S.nil ?_
  refine thenQ_n ?_
  refine AWp.prune (.eq (lk 0 rfl rfl) rfl (.eq (lk 13 rfl rfl) rfl .nil)) ?_
  refine AWp.ret ?_
  refine endF_wk (Wk.freeze 3 rfl rfl (.same (lk 0 rfl rfl) (.cons (lk 1 rfl rfl) rfl (.ptr .nil (by first | rfl | omega)) .nil)) (.refl _)) ?_
  obtain rfl := h.ret
  exact endFN rfl (Wk.selS [] .nil rfl (SelE.leaf (lk 1 rfl rfl) rfl (.refl _) (fun m => (lt_cptr (ty_TCounter.lt _ _))) (SelE.leaf (lk 0 rfl rfl) rfl (.refl _) (fun m => ((TyOk.int .i64).lt _ _)) .nil)) .nil) (.cons (.cellC sz28 ag28 (lk 0 rfl rfl) (ty_TCounter.fl _) rfl) (.cons (.tmp (lk 1 rfl rfl) rfl) .nil)) rfl rfl rfl
theorem C_field_changed {a1 : TField} {a2 : TCounter} {a3 : Int} {r : TField × Int} (h : field_changed a1 a2 a3 = some r) : PureC Pg 63 [E_TField a1, E_TCounter a2, (V.int .i64) a3] (.tup [E_TField r.1, (V.int .i64) r.2]) := by
  refine PureC.ofF (CallSpec.of_bodyF 15 0 fn63 rfl rfl rfl (Nat.le_of_ble_eq_true rfl) ?_) (ltL_c (ty_TField.lt _ _) (ltL_c (ty_TCounter.lt _ _) (ltL_c ((TyOk.int .i64).lt _ _) ltL_nil))) (lt_tup (ltL_c (ty_TField.lt _ _) (ltL_c ((TyOk.int .i64).lt _ _) ltL_nil)))
  replace h := Ok.of h
  unfold field_changed at h
  refine AWp.seq ?_
  refine W.reg [0, 1, 2, 3] rfl ?_
  refine S.eff 3 rfl rfl (.nf (v2 := .ptr 0 [] 0) (H2 := [.cells (E_TField a1)]) (.box (lk 0 rfl rfl) rfl) rfl rfl) trivial ?_
  refine S.eff 4 rfl rfl (.nf (v2 := .ptr 1 [] 0) (H2 := [.cells (E_TField a1), .cells (E_TCounter a2)]) (.box (lk 2 rfl rfl) rfl) rfl rfl) trivial ?_
  refine S.eff 6 rfl rfl (.nf (v2 := .ptr 2 [] 0) (H2 := [.cells (E_TField a1), .cells (E_TCounter a2), .cells (.st [V.str (default : ByteArray), (V.int .i64) 0, (V.int .i64) 0, E_TCounter (default : TCounter), E_TLock (default : TLock), .nils])]) (.alloc zv33) rfl rfl) trivial ?_
  refine S.sil 7 rfl rfl (fun _ hF => .assign cI) ?_
  refine S.nil ?_
  refine thenQ_n ?_
  refine AWp.wk (Wk.freeze 1 rfl rfl (.same (lk 0 rfl rfl) (.same (lk 1 rfl rfl) (.cons (lk 2 rfl rfl) rfl (.ptr .nil (by first | rfl | omega)) (.same (lk 3 rfl rfl) (.same (lk 6 rfl rfl) .nil))))) (.refl _)) ?_
  refine AWp.seq ?_
  refine W.reg [0, 1, 2] rfl ?_
  refine S.sil 8 rfl rfl (fun _ hF => .loadC sz28 ag28 (lk 2 rfl rfl) (ty_TCounter.fl a2) rfl) ?_
  refine S.sil 9 rfl rfl (fun _ hF => .fieldAddr lay33 rfl rfl (lk 4 rfl rfl)) ?_
  obtain ⟨v4, ev4, h⟩ := h.nam
  refine S.effN rfl rfl (.nf (H2 := [.cells (E_TField v4), .dead, .cells (.st [V.str (default : ByteArray), (V.int .i64) 0, (V.int .i64) 0, E_TCounter (default : TCounter), E_TLock (default : TLock), .nils])]) (.storeP sz28 (lk 0 rfl rfl) (lk 1 rfl rfl) rfl (.refl _) rfl (.st rfl (flL_c (show flen _ = 1 from rfl) (flL_c (show flen _ = 1 from rfl) (flL_c (show flen _ = 1 from rfl) flL_nil))) .nil) (by first | rfl | omega) (.st rfl .nil rfl) (ty_TCounter.fl a2) (ty_TCounter.fl a1.Counter) (congrArg (fun z => ([AObj.cells (E_TField z), .dead, .cells (.st [V.str (default : ByteArray), (V.int .i64) 0, (V.int .i64) 0, E_TCounter (default : TCounter), E_TLock (default : TLock), .nils])] : List AObj)) ev4.symm)) rfl rfl) trivial ?_
  refine S.nil ?_
  refine thenQ_n ?_
  refine AWp.seq ?_
  refine W.reg [0, 1, 2, 3, 4, 5, 6] rfl ?_
  refine S.qui 10 rfl rfl (fun _ => .loadP sz33 ag33 (lk 5 rfl rfl) rfl .nil (by first | rfl | omega) (ty_TField.fl v4) rfl) ?_
  refine S.sil 11 rfl rfl (fun _ hF => .move (lk 7 rfl rfl)) ?_
  obtain ⟨r5, m5, h⟩ := h.bnd
  refine S.sil 12 rfl rfl (fun _ hF => .callQ ent73 cF (.c (lk 1 rfl rfl) (V.sub.refl _) (.c (lk 0 rfl rfl) (V.sub.refl _) .nil)) (C_field_done m5)) ?_
  refine S.sil 13 rfl rfl (fun _ hF => .extract (lk 0 rfl rfl) rfl) ?_
  refine S.sil 14 rfl rfl (fun _ hF => .extract (lk 1 rfl rfl) rfl) ?_
  refine S.effN rfl rfl (.nf (H2 := [.cells (E_TField v4), .dead, .cells (E_TField r5.1)]) (.storeP sz33 (lk 8 rfl rfl) (lk 1 rfl rfl) rfl (.refl _) rfl .nil (by first | rfl | omega) .nil (ty_TField.fl r5.1) (fl_st (flL_c (show flen _ = 1 from rfl) (flL_c (show flen _ = 1 from rfl) (flL_c (show flen _ = 1 from rfl) (flL_c (ty_TCounter.fl (default : TCounter)) (flL_c (ty_TLock.fl (default : TLock)) (flL_c (show flen _ = 1 from rfl) flL_nil))))))) rfl) rfl rfl) trivial ?_
  refine S.sil 7 rfl rfl (fun _ hF => .assign (lk 0 rfl rfl)) ?_
  refine S.nil ?_
  refine thenQ_n ?_
  refine AWp.prune (.eq (lk 0 rfl rfl) rfl (.eq (lk 9 rfl rfl) rfl .nil)) ?_
  refine AWp.ret ?_
  refine endF_wk (Wk.freeze 2 rfl rfl (.same (lk 0 rfl rfl) (.cons (lk 1 rfl rfl) rfl (.ptr .nil (by first | rfl | omega)) .nil)) (.refl _)) ?_
  obtain rfl := h.ret
  exact endFN rfl (Wk.selS [] .nil rfl (SelE.leaf (lk 1 rfl rfl) rfl (.refl _) (fun m => (lt_cptr (ty_TField.lt _ _))) (SelE.leaf (lk 0 rfl rfl) rfl (.refl _) (fun m => ((TyOk.int .i64).lt _ _)) .nil)) .nil) (.cons (.cellC sz33 ag33 (lk 0 rfl rfl) (ty_TField.fl _) rfl) (.cons (.tmp (lk 1 rfl rfl) rfl) .nil)) rfl rfl rfl
theorem C_counter_Dec_1 {a1 : Int} {a2 : Int} {b3 : TCounter} {r : TRights × Int × TCounter} (h : counter_Dec_1 a1 a2 b3 = some r) : CallSpec Pg 120 [.ptr 0 [] 0, .cptr ((V.int .i64) a1), .cptr ((V.int .i64) a2)] [.cells (E_TCounter b3)] fun o H' => o = .ret (.tup [E_TRights r.1, (V.int .i64) r.2.1]) ∧ H' = [.cells (E_TCounter r.2.2)] := by
  refine CallSpec.of_bodyF 12 1 fn120 rfl rfl rfl (Nat.le_of_ble_eq_true rfl) ?_
  replace h := Ok.of h
  unfold counter_Dec_1 at h
  refine AWp.seq ?_
  refine W.reg [0, 1] rfl ?_
  refine S.eff 3 rfl rfl (.nf (v2 := .ptr 1 [] 0) (H2 := [.cells (E_TCounter b3), .cells (E_TRights (default : TRights))]) (.alloc zv26) rfl rfl) trivial ?_
  refine S.sil 4 rfl rfl (fun _ hF => .assign cI) ?_
  refine S.nil ?_
  refine thenQ_n ?_
  refine AWp.seq ?_
  refine W.reg [0, 1, 2, 3, 4, 5, 6, 7, 8] rfl ?_
  refine S.sil 5 rfl rfl (fun _ hF => .fieldAddr lay28 rfl rfl (lk 2 rfl rfl)) ?_
  refine S.qui 6 rfl rfl (fun _ => .loadP sz26 ag26 (lk 0 rfl rfl) rfl (.st rfl (flL_c (show flen _ = 1 from rfl) (flL_c (show flen _ = 1 from rfl) (flL_c (show flen _ = 1 from rfl) flL_nil))) .nil) (by first | rfl | omega) (ty_TRights.fl b3.Down) rfl) ?_
  refine S.sil 7 rfl rfl (fun _ hF => .loadC sz3 ag3 (lk 5 rfl rfl) rfl rfl) ?_
  refine S.sil 8 rfl rfl (fun _ hF => .loadC sz3 ag3 (lk 7 rfl rfl) rfl rfl) ?_
  obtain ⟨r4, m4, h⟩ := h.bnd
  refine S.sil 9 rfl rfl (fun _ hF => .callQ ent114 cF (.c (lk 2 rfl rfl) (V.sub.refl _) (.c (lk 1 rfl rfl) (V.sub.refl _) (.c (lk 0 rfl rfl) (V.sub.refl _) .nil))) (C_rights_Use m4)) ?_
  refine S.sil 10 rfl rfl (fun _ hF => .extract (lk 0 rfl rfl) rfl) ?_
  refine S.sil 11 rfl rfl (fun _ hF => .extract (lk 1 rfl rfl) rfl) ?_
  refine S.effN rfl rfl (.nf (H2 := [.cells (E_TCounter b3), .cells (E_TRights r4.1)]) (.storeP sz26 (lk 8 rfl rfl) (lk 1 rfl rfl) rfl (.refl _) rfl .nil (by first | rfl | omega) .nil (ty_TRights.fl r4.1) (ty_TRights.fl (default : TRights)) rfl) rfl rfl) trivial ?_
  refine S.sil 4 rfl rfl (fun _ hF => .assign (lk 0 rfl rfl)) ?_
  refine S.nil ?_
  refine thenQ_n ?_
  refine AWp.prune (.eq (lk 0 rfl rfl) rfl (.eq (lk 9 rfl rfl) rfl .nil)) ?_
  refine AWp.ret ?_
  refine endF_wk (Wk.freeze 1 rfl rfl (.same (lk 0 rfl rfl) (.cons (lk 1 rfl rfl) rfl (.ptr .nil (by first | rfl | omega)) .nil)) (.refl _)) ?_
  obtain rfl := h.ret
  exact endFN rfl (Wk.selS [0] (by decide) rfl (SelE.leaf (lk 1 rfl rfl) rfl (.refl _) (fun m => (lt_cptr (ty_TRights.lt _ _))) (SelE.leaf (lk 0 rfl rfl) rfl (.refl _) (fun m => ((TyOk.int .i64).lt _ _)) .nil)) (.cons (lt_cells (ty_TCounter.lt _ _)) rfl (RSub.trans (.refl _) (.eq (ty_TCounter.cl _ _).symm)) .nil)) (.cons (.cellC sz26 ag26 (lk 0 rfl rfl) (ty_TRights.fl _) rfl) (.cons (.tmp (lk 1 rfl rfl) rfl) .nil)) rfl rfl rfl
theorem C_counter_Dec_2 {a1 : Int} {a2 : Int} {b3 : TCounter} {r : TRights × Int × TCounter} (h : counter_Dec_2 a1 a2 b3 = some r) : CallSpec Pg 121 [.ptr 0 [] 0, .cptr ((V.int .i64) a1), .cptr ((V.int .i64) a2)] [.cells (E_TCounter b3)] fun o H' => o = .ret (.tup [E_TRights r.1, (V.int .i64) r.2.1]) ∧ H' = [.cells (E_TCounter r.2.2)] := by
  refine CallSpec.of_bodyF 12 1 fn121 rfl rfl rfl (Nat.le_of_ble_eq_true rfl) ?_
  replace h := Ok.of h
  unfold counter_Dec_2 at h
  refine AWp.seq ?_
  refine W.reg [0, 1] rfl ?_
  refine S.eff 3 rfl rfl (.nf (v2 := .ptr 1 [] 0) (H2 := [.cells (E_TCounter b3), .cells (E_TRights (default : TRights))]) (.alloc zv26) rfl rfl) trivial ?_
  refine S.sil 4 rfl rfl (fun _ hF => .assign cI) ?_
  refine S.nil ?_
  refine thenQ_n ?_
  refine AWp.seq ?_
  refine W.reg [0, 1, 2, 3, 4, 5, 6, 7, 8] rfl ?_
  refine S.sil 5 rfl rfl (fun _ hF => .fieldAddr lay28 rfl rfl (lk 2 rfl rfl)) ?_
  refine S.qui 6 rfl rfl (fun _ => .loadP sz26 ag26 (lk 0 rfl rfl) rfl (.st rfl (flL_c (show flen _ = 1 from rfl) (flL_c (show flen _ = 1 from rfl) (flL_c (show flen _ = 1 from rfl) (flL_c (ty_TRights.fl b3.Down) flL_nil)))) .nil) (by first | rfl | omega) (ty_TRights.fl b3.Up) rfl) ?_
  refine S.sil 7 rfl rfl (fun _ hF => .loadC sz3 ag3 (lk 5 rfl rfl) rfl rfl) ?_
  refine S.sil 8 rfl rfl (fun _ hF => .loadC sz3 ag3 (lk 7 rfl rfl) rfl rfl) ?_
  obtain ⟨r4, m4, h⟩ := h.bnd
  refine S.sil 9 rfl rfl (fun _ hF => .callQ ent116 cF (.c (lk 2 rfl rfl) (V.sub.refl _) (.c (lk 1 rfl rfl) (V.sub.refl _) (.c (lk 0 rfl rfl) (V.sub.refl _) .nil))) (C_rights_Give m4)) ?_
  refine S.sil 10 rfl rfl (fun _ hF => .extract (lk 0 rfl rfl) rfl) ?_
  refine S.sil 11 rfl rfl (fun _ hF => .extract (lk 1 rfl rfl) rfl) ?_
  refine S.effN rfl rfl (.nf (H2 := [.cells (E_TCounter b3), .cells (E_TRights r4.1)]) (.storeP sz26 (lk 8 rfl rfl) (lk 1 rfl rfl) rfl (.refl _) rfl .nil (by first | rfl | omega) .nil (ty_TRights.fl r4.1) (ty_TRights.fl (default : TRights)) rfl) rfl rfl) trivial ?_
  refine S.sil 4 rfl rfl (fun _ hF => .assign (lk 0 rfl rfl)) ?_
  refine S.nil ?_
  refine thenQ_n ?_
  refine AWp.prune (.eq (lk 0 rfl rfl) rfl (.eq (lk 9 rfl rfl) rfl .nil)) ?_
  refine AWp.ret ?_
  refine endF_wk (Wk.freeze 1 rfl rfl (.same (lk 0 rfl rfl) (.cons (lk 1 rfl rfl) rfl (.ptr .nil (by first | rfl | omega)) .nil)) (.refl _)) ?_
  obtain rfl := h.ret
  exact endFN rfl (Wk.selS [0] (by decide) rfl (SelE.leaf (lk 1 rfl rfl) rfl (.refl _) (fun m => (lt_cptr (ty_TRights.lt _ _))) (SelE.leaf (lk 0 rfl rfl) rfl (.refl _) (fun m => ((TyOk.int .i64).lt _ _)) .nil)) (.cons (lt_cells (ty_TCounter.lt _ _)) rfl (RSub.trans (.refl _) (.eq (ty_TCounter.cl _ _).symm)) .nil)) (.cons (.cellC sz26 ag26 (lk 0 rfl rfl) (ty_TRights.fl _) rfl) (.cons (.tmp (lk 1 rfl rfl) rfl) .nil)) rfl rfl rfl
theorem C_counter_Dec_3 {a1 : TRights} {a2 : TRights} {b3 : TCounter} {r : TCounter} (h : counter_Dec_3 a1 a2 b3 = some r) : CallSpec Pg 122 [E_TRights a1, E_TRights a2, .ptr 0 [] 0] [.cells (E_TCounter b3)] fun o H' => o = .ret (.tup []) ∧ H' = [.cells (E_TCounter r)] := by
  refine CallSpec.of_bodyF 9 1 fn122 rfl rfl rfl (Nat.le_of_ble_eq_true rfl) ?_
  replace h := Ok.of h
  unfold counter_Dec_3 at h
  refine AWp.seq ?_
  refine W.reg [0, 1] rfl ?_
  refine S.eff 3 rfl rfl (.nf (v2 := .ptr 1 [] 0) (H2 := [.cells (E_TCounter b3), .cells (E_TRights a1)]) (.box (lk 0 rfl rfl) rfl) rfl rfl) trivial ?_
  refine S.eff 4 rfl rfl (.nf (v2 := .ptr 2 [] 0) (H2 := [.cells (E_TCounter b3), .cells (E_TRights a1), .cells (E_TRights a2)]) (.box (lk 2 rfl rfl) rfl) rfl rfl) trivial ?_
  refine S.nil ?_
  refine thenQ_n ?_
  refine AWp.wk (Wk.freeze 1 rfl rfl (.same (lk 0 rfl rfl) (.cons (lk 1 rfl rfl) rfl (.ptr .nil (by first | rfl | omega)) (.same (lk 4 rfl rfl) .nil))) (.refl _)) ?_
  refine AWp.wk (Wk.freeze 2 rfl rfl (.cons (lk 0 rfl rfl) rfl (.ptr .nil (by first | rfl | omega)) (.same (lk 1 rfl rfl) (.same (lk 2 rfl rfl) .nil))) (.refl _)) ?_
  refine W.regD [0, 1, 2, 3, 4, 5] mixed ?_
  refine S.sil 5 rfl rfl (fun _ hF => .loadC sz26 ag26 (lk 1 rfl rfl) (ty_TRights.fl a1) rfl) ?_
  refine S.sil 6 rfl rfl (fun _ hF => .loadC sz26 ag26 (lk 1 rfl rfl) (ty_TRights.fl a2) rfl) ?_
  refine S.sil 7 rfl rfl (fun _ hF => .fieldAddr lay28 rfl rfl (lk 4 rfl rfl)) ?_
  obtain ⟨v4, ev4, h⟩ := h.nam
  refine S.effN rfl rfl (.storeP sz26 (lk 0 rfl rfl) (lk 2 rfl rfl) rfl (.refl _) rfl (.st rfl (flL_c (show flen _ = 1 from rfl) (flL_c (show flen _ = 1 from rfl) (flL_c (show flen _ = 1 from rfl) flL_nil))) .nil) (by first | rfl | omega) (.st rfl .nil rfl) (ty_TRights.fl a1) (ty_TRights.fl b3.Down) (congrArg (fun z => ([AObj.cells (E_TCounter z), .dead, .dead] : List AObj)) ev4.symm)) trivial ?_
  refine S.sil 8 rfl rfl (fun _ hF => .fieldAddr lay28 rfl rfl (lk 5 rfl rfl)) ?_
  obtain ⟨v5, ev5, h⟩ := h.nam
  refine S.effN rfl rfl (.storeP sz26 (lk 0 rfl rfl) (lk 2 rfl rfl) rfl (.refl _) rfl (.st rfl (flL_c (show flen _ = 1 from rfl) (flL_c (show flen _ = 1 from rfl) (flL_c (show flen _ = 1 from rfl) (flL_c (ty_TRights.fl v4.Down) flL_nil)))) .nil) (by first | rfl | omega) (.st rfl .nil rfl) (ty_TRights.fl a2) (ty_TRights.fl v4.Up) (congrArg (fun z => ([AObj.cells (E_TCounter z), .dead, .dead] : List AObj)) ev5.symm)) trivial ?_
  refine S.nilD (by kernel_rfl) ?_
  refine endF_n ?_
  obtain rfl := h.ret
  exact endFN rfl (Wk.selS [0] (by decide) rfl .nil (.cons (lt_cells (ty_TCounter.lt _ _)) rfl (RSub.trans (.refl _) (.eq (ty_TCounter.cl _ _).symm)) .nil)) .nil rfl rfl rfl
theorem C_counter_both_Dec_1_Dec_2_Dec_3 {a1 : TCounter} {a2 : Int} {a3 : Int} {a4 : Int} {a5 : Int} {b6 : TCounter} {r : Int × TCounter} (h : counter_both_Dec_1_Dec_2_Dec_3 a1 a2 a3 a4 a5 b6 = some r) : CallSpec Pg 112 [E_TCounter a1, .fn 120 [] [.ptr 0 [] 0, .cptr ((V.int .i64) a2), .cptr ((V.int .i64) a3)], .fn 121 [] [.ptr 0 [] 0, .cptr ((V.int .i64) a4), .cptr ((V.int .i64) a5)], .fn 122 [] [.ptr 0 [] 0]] [.cells (E_TCounter b6)] fun o H' => o = .ret ((V.int .i64) r.1) ∧ H' = [.cells (E_TCounter r.2)] := by
  refine CallSpec.of_bodyF 32 1 fn112 rfl rfl rfl (Nat.le_of_ble_eq_true rfl) ?_
  replace h := Ok.of h
  unfold counter_both_Dec_1_Dec_2_Dec_3 at h
  refine AWp.seq ?_
  refine W.reg [0, 1] rfl ?_
  refine S.eff 4 rfl rfl (.nf (v2 := .ptr 1 [] 0) (H2 := [.cells (E_TCounter b6), .cells (E_TCounter a1)]) (.box (lk 0 rfl rfl) rfl) rfl rfl) trivial ?_
  refine S.sil 8 rfl rfl (fun _ hF => .assign cI) ?_
  refine S.nil ?_
  refine thenQ_n ?_
  refine AWp.wk (Wk.freeze 1 rfl rfl (.same (lk 0 rfl rfl) (.same (lk 3 rfl rfl) (.same (lk 4 rfl rfl) (.same (lk 5 rfl rfl) .nil)))) (.refl _)) ?_
  refine AWp.seq ?_
  refine W.reg [0, 1, 2, 3, 4, 5, 6, 7] rfl ?_
  refine S.sil 13 rfl rfl (fun _ hF => .move (lk 1 rfl rfl)) ?_
  obtain ⟨r7, m7, h⟩ := h.bnd
  refine S.eff 14 rfl rfl (.nf (v2 := .tup [E_TRights r7.1, (V.int .i64) r7.2.1]) (H2 := [.cells (E_TCounter r7.2.2), .dead]) (.callH ent120 (lk 0 rfl rfl) [0] (C_counter_Dec_1 m7) (by decide) (.cons (lt_cells (ty_TCounter.lt _ _)) rfl (RSub.trans (.refl _) (.eq (ty_TCounter.cl _ _).symm)) .nil) (ltL_c rfl (ltL_c (lt_cptr ((TyOk.int .i64).lt _ _)) (ltL_c (lt_cptr ((TyOk.int .i64).lt _ _)) ltL_nil))) (.cons (subren rfl) (.cons (vsubr (V.sub.refl _) (lt_cptr ((TyOk.int .i64).lt _ _))) (.cons (vsubr (V.sub.refl _) (lt_cptr ((TyOk.int .i64).lt _ _))) .nil))) (ren_tup (renL_c (ty_TRights.cl _ _) (renL_c ((TyOk.int .i64).cl _ _) rfl))) (mapc (ren_cells (ty_TCounter.cl _ _)) rfl) rfl) rfl rfl) trivial ?_
  refine S.sil 12 rfl rfl (fun _ hF => .move (lk 0 rfl rfl)) ?_
  refine S.sil 15 rfl rfl (fun _ hF => .extract (lk 0 rfl rfl) rfl) ?_
  refine S.sil 16 rfl rfl (fun _ hF => .extract (lk 1 rfl rfl) rfl) ?_
  refine S.eff 9 rfl rfl (.nf (v2 := .ptr 2 [] 0) (H2 := [.cells (E_TCounter r7.2.2), .dead, .cells (E_TRights (default : TRights))]) (.alloc zv26) rfl rfl) trivial ?_
  refine S.effN rfl rfl (.nf (H2 := [.cells (E_TCounter r7.2.2), .dead, .cells (E_TRights r7.1)]) (.storeP sz26 (lk 0 rfl rfl) (lk 2 rfl rfl) rfl (.refl _) rfl .nil (by first | rfl | omega) .nil (ty_TRights.fl r7.1) (ty_TRights.fl (default : TRights)) rfl) rfl rfl) trivial ?_
  refine S.sil 10 rfl rfl (fun _ hF => .assign (lk 1 rfl rfl)) ?_
  refine S.nil ?_
  refine thenQ_n ?_
  refine AWp.wk (Wk.freeze 2 rfl rfl (.same (lk 0 rfl rfl) (.cons (lk 1 rfl rfl) rfl (.ptr .nil (by first | rfl | omega)) (.same (lk 7 rfl rfl) (.same (lk 9 rfl rfl) (.same (lk 10 rfl rfl) .nil))))) (.refl _)) ?_
  refine AWp.seq ?_
  refine AWp.seq ?_
  refine W.reg [0, 1] rfl ?_
  refine S.sil 17 rfl rfl (fun _ hF => .move (lk 0 rfl rfl)) ?_
  refine S.sil 18 rfl rfl (fun _ hF => .neq (lk 0 rfl rfl) cI) ?_
  refine S.nil ?_
  refine thenQ_n ?_
  refine AWp.condM (lk 0 rfl rfl) h (fun c1 h => ?_) (fun c1 h => ?_)
  · skip
    refine AWp.seq ?_
    refine W.reg [0, 1] rfl ?_
    refine S.sil 19 rfl rfl (fun _ hF => .move (lk 2 rfl rfl)) ?_
    refine S.sil 8 rfl rfl (fun _ hF => .assign (lk 0 rfl rfl)) ?_
    refine S.nil ?_
    refine thenQ_n ?_
    refine AWp.ret ?_
    refine thenQ_r ?_
    obtain rfl := h.ret
    exact endF1 rfl (Wk.selS [0] (by decide) rfl (SelE.leaf (lk 0 rfl rfl) rfl (.refl _) (fun m => ((TyOk.int .i64).lt _ _)) .nil) (.cons (lt_cells (ty_TCounter.lt _ _)) rfl (RSub.trans (.refl _) (.eq (ty_TCounter.cl _ _).symm)) .nil)) (.tmp (lk 0 rfl rfl) rfl) rfl rfl
  · skip
    refine AWp.skip ?_
    refine thenQ_n ?_
    refine AWp.seq ?_
    refine W.reg [0, 1, 2, 3, 4, 5, 6, 7] rfl ?_
    refine S.sil 21 rfl rfl (fun _ hF => .move (lk 5 rfl rfl)) ?_
    obtain ⟨r8, m8, h⟩ := h.bnd
    refine S.eff 22 rfl rfl (.nf (v2 := .tup [E_TRights r8.1, (V.int .i64) r8.2.1]) (H2 := [.cells (E_TCounter r8.2.2), .dead, .dead]) (.callH ent121 (lk 0 rfl rfl) [0] (C_counter_Dec_2 m8) (by decide) (.cons (lt_cells (ty_TCounter.lt _ _)) rfl (RSub.trans (.refl _) (.eq (ty_TCounter.cl _ _).symm)) .nil) (ltL_c rfl (ltL_c (lt_cptr ((TyOk.int .i64).lt _ _)) (ltL_c (lt_cptr ((TyOk.int .i64).lt _ _)) ltL_nil))) (.cons (subren rfl) (.cons (vsubr (V.sub.refl _) (lt_cptr ((TyOk.int .i64).lt _ _))) (.cons (vsubr (V.sub.refl _) (lt_cptr ((TyOk.int .i64).lt _ _))) .nil))) (ren_tup (renL_c (ty_TRights.cl _ _) (renL_c ((TyOk.int .i64).cl _ _) rfl))) (mapc (ren_cells (ty_TCounter.cl _ _)) rfl) rfl) rfl rfl) trivial ?_
    refine S.sil 20 rfl rfl (fun _ hF => .move (lk 0 rfl rfl)) ?_
    refine S.sil 23 rfl rfl (fun _ hF => .extract (lk 0 rfl rfl) rfl) ?_
    refine S.sil 24 rfl rfl (fun _ hF => .extract (lk 1 rfl rfl) rfl) ?_
    refine S.eff 11 rfl rfl (.nf (v2 := .ptr 3 [] 0) (H2 := [.cells (E_TCounter r8.2.2), .dead, .dead, .cells (E_TRights (default : TRights))]) (.alloc zv26) rfl rfl) trivial ?_
    refine S.effN rfl rfl (.nf (H2 := [.cells (E_TCounter r8.2.2), .dead, .dead, .cells (E_TRights r8.1)]) (.storeP sz26 (lk 0 rfl rfl) (lk 2 rfl rfl) rfl (.refl _) rfl .nil (by first | rfl | omega) .nil (ty_TRights.fl r8.1) (ty_TRights.fl (default : TRights)) rfl) rfl rfl) trivial ?_
    refine S.sil 10 rfl rfl (fun _ hF => .assign (lk 1 rfl rfl)) ?_
    refine S.nil ?_
    refine thenQ_n ?_
    refine AWp.wk (Wk.freeze 3 rfl rfl (.same (lk 0 rfl rfl) (.cons (lk 1 rfl rfl) rfl (.ptr .nil (by first | rfl | omega)) (.same (lk 10 rfl rfl) (.same (lk 11 rfl rfl) (.same (lk 13 rfl rfl) .nil))))) (.refl _)) ?_
    refine AWp.seq ?_
    refine AWp.seq ?_
    refine W.reg [0, 1] rfl ?_
    refine S.sil 25 rfl rfl (fun _ hF => .move (lk 0 rfl rfl)) ?_
    refine S.sil 26 rfl rfl (fun _ hF => .eql (lk 0 rfl rfl) cI) ?_
    refine S.nil ?_
    refine thenQ_n ?_
    refine AWp.condM (lk 0 rfl rfl) h (fun c2 h => ?_) (fun c2 h => ?_)
    · skip
      refine W.reg [0, 1, 2, 3] rfl ?_
      refine S.sil 27 rfl rfl (fun _ hF => .move (lk 6 rfl rfl)) ?_
      refine S.sil 28 rfl rfl (fun _ hF => .loadC sz26 ag26 (lk 5 rfl rfl) (ty_TRights.fl r7.1) rfl) ?_
      refine S.sil 29 rfl rfl (fun _ hF => .loadC sz26 ag26 (lk 5 rfl rfl) (ty_TRights.fl r8.1) rfl) ?_
      obtain ⟨r9, m9, h⟩ := h.bnd
      refine S.eff 30 rfl rfl (.nf (H2 := [.cells (E_TCounter r9), .dead, .dead, .dead]) (.callH ent122 (lk 2 rfl rfl) [0] (C_counter_Dec_3 m9) (by decide) (.cons (lt_cells (ty_TCounter.lt _ _)) rfl (RSub.trans (.refl _) (.eq (ty_TCounter.cl _ _).symm)) .nil) (ltL_c (ty_TRights.lt _ _) (ltL_c (ty_TRights.lt _ _) (ltL_c rfl ltL_nil))) (.c (lk 1 rfl rfl) (vsubr (V.sub.refl _) (ty_TRights.lt _ _)) (.c (lk 0 rfl rfl) (vsubr (V.sub.refl _) (ty_TRights.lt _ _)) (.cons (subren rfl) .nil))) (ren_tup rfl) (mapc (ren_cells (ty_TCounter.cl _ _)) rfl) rfl) rfl rfl) trivial ?_
      refine S.nil ?_
      refine thenQ_n ?_
      refine AWp.seq ?_
      refine W.reg [0, 1] rfl ?_
      refine S.sil 31 rfl rfl (fun _ hF => .move (lk 6 rfl rfl)) ?_
      refine S.sil 8 rfl rfl (fun _ hF => .assign (lk 0 rfl rfl)) ?_
      refine S.nil ?_
      refine thenQ_n ?_
      refine AWp.prune (.eq (lk 0 rfl rfl) rfl .nil) ?_
      refine AWp.ret ?_
      obtain rfl := h.ret
      exact endF1 rfl (Wk.selS [0] (by decide) rfl (SelE.leaf (lk 0 rfl rfl) rfl (.refl _) (fun m => ((TyOk.int .i64).lt _ _)) .nil) (.cons (lt_cells (ty_TCounter.lt _ _)) rfl (RSub.trans (.refl _) (.eq (ty_TCounter.cl _ _).symm)) .nil)) (.tmp (lk 0 rfl rfl) rfl) rfl rfl
    · skip
      refine AWp.skip ?_
      refine thenQ_n ?_
      refine AWp.seq ?_
      refine W.reg [0, 1] rfl ?_
      refine S.sil 31 rfl rfl (fun _ hF => .move (lk 2 rfl rfl)) ?_
      refine S.sil 8 rfl rfl (fun _ hF => .assign (lk 0 rfl rfl)) ?_
      refine S.nil ?_
      refine thenQ_n ?_
      refine AWp.ret ?_
      obtain rfl := h.ret
      exact endF1 rfl (Wk.selS [0] (by decide) rfl (SelE.leaf (lk 0 rfl rfl) rfl (.refl _) (fun m => ((TyOk.int .i64).lt _ _)) .nil) (.cons (lt_cells (ty_TCounter.lt _ _)) rfl (RSub.trans (.refl _) (.eq (ty_TCounter.cl _ _).symm)) .nil)) (.tmp (lk 0 rfl rfl) rfl) rfl rfl
theorem C_counter_Dec {a1 : TCounter} {a2 : Int} {a3 : Int} {r : TCounter × Int} (h : counter_Dec a1 a2 a3 = some r) : PureC Pg 66 [E_TCounter a1, (V.int .i64) a2, (V.int .i64) a3] (.tup [E_TCounter r.1, (V.int .i64) r.2]) := by
  refine PureC.ofF (CallSpec.of_bodyF 19 0 fn66 rfl rfl rfl (Nat.le_of_ble_eq_true rfl) ?_) (ltL_c (ty_TCounter.lt _ _) (ltL_c ((TyOk.int .i64).lt _ _) (ltL_c ((TyOk.int .i64).lt _ _) ltL_nil))) (lt_tup (ltL_c (ty_TCounter.lt _ _) (ltL_c ((TyOk.int .i64).lt _ _) ltL_nil)))
  replace h := Ok.of h
  unfold counter_Dec at h
  refine AWp.seq ?_
  refine W.reg [0, 1, 2, 3, 4] rfl ?_
  refine S.eff 3 rfl rfl (.nf (v2 := .ptr 0 [] 0) (H2 := [.cells (E_TCounter a1)]) (.box (lk 0 rfl rfl) rfl) rfl rfl) trivial ?_
  refine S.eff 4 rfl rfl (.nf (v2 := .ptr 1 [] 0) (H2 := [.cells (E_TCounter a1), .cells ((V.int .i64) a2)]) (.box (lk 2 rfl rfl) rfl) rfl rfl) trivial ?_
  refine S.eff 5 rfl rfl (.nf (v2 := .ptr 2 [] 0) (H2 := [.cells (E_TCounter a1), .cells ((V.int .i64) a2), .cells ((V.int .i64) a3)]) (.box (lk 4 rfl rfl) rfl) rfl rfl) trivial ?_
  refine S.eff 6 rfl rfl (.nf (v2 := .ptr 3 [] 0) (H2 := [.cells (E_TCounter a1), .cells ((V.int .i64) a2), .cells ((V.int .i64) a3), .cells (E_TCounter (default : TCounter))]) (.alloc zv28) rfl rfl) trivial ?_
  refine S.sil 7 rfl rfl (fun _ hF => .assign cI) ?_
  refine S.nil ?_
  refine thenQ_n ?_
  refine AWp.wk (Wk.freeze 1 rfl rfl (.same (lk 0 rfl rfl) (.same (lk 1 rfl rfl) (.same (lk 2 rfl rfl) (.cons (lk 3 rfl rfl) rfl (.ptr .nil (by first | rfl | omega)) (.same (lk 4 rfl rfl) .nil))))) (.refl _)) ?_
  refine AWp.wk (Wk.freeze 2 rfl rfl (.same (lk 0 rfl rfl) (.same (lk 1 rfl rfl) (.cons (lk 2 rfl rfl) rfl (.ptr .nil (by first | rfl | omega)) (.same (lk 3 rfl rfl) (.same (lk 4 rfl rfl) .nil))))) (.refl _)) ?_
  refine AWp.seq ?_
  refine W.reg [0, 1, 2, 3, 4, 5] rfl ?_
  refine S.qui 9 rfl rfl (fun _ => .loadP sz28 ag28 (lk 4 rfl rfl) rfl .nil (by first | rfl | omega) (ty_TCounter.fl a1) rfl) ?_
  refine S.sil 10 rfl rfl (fun _ hF => .makeFunc rfl (mapE3 (lk 5 rfl rfl) (lk 4 rfl rfl) (lk 3 rfl rfl)) rfl rfl) ?_
  refine S.sil 11 rfl rfl (fun _ hF => .makeFunc rfl (mapE3 (lk 6 rfl rfl) (lk 5 rfl rfl) (lk 4 rfl rfl)) rfl rfl) ?_
  refine S.sil 12 rfl rfl (fun _ hF => .makeFunc rfl (mapE1 (lk 7 rfl rfl)) rfl rfl) ?_
  obtain ⟨r4, m4, h⟩ := h.bnd
  refine S.eff 13 rfl rfl (.nf (v2 := (V.int .i64) r4.1) (H2 := [.cells (E_TCounter r4.2), .dead, .dead, .cells (E_TCounter (default : TCounter))]) (.callH ent112 cF [0] (C_counter_both_Dec_1_Dec_2_Dec_3 m4) (by decide) (.cons (lt_cells (ty_TCounter.lt _ _)) rfl (RSub.trans (.refl _) (.eq (ty_TCounter.cl _ _).symm)) .nil) (ltL_c (ty_TCounter.lt _ _) (ltL_c (lt_fn ltL_nil (ltL_c rfl (ltL_c (lt_cptr ((TyOk.int .i64).lt _ _)) (ltL_c (lt_cptr ((TyOk.int .i64).lt _ _)) ltL_nil)))) (ltL_c (lt_fn ltL_nil (ltL_c rfl (ltL_c (lt_cptr ((TyOk.int .i64).lt _ _)) (ltL_c (lt_cptr ((TyOk.int .i64).lt _ _)) ltL_nil)))) (ltL_c (lt_fn ltL_nil (ltL_c rfl ltL_nil)) ltL_nil)))) (.c (lk 3 rfl rfl) (vsubr (V.sub.refl _) (ty_TCounter.lt _ _)) (.c (lk 2 rfl rfl) (subren (ren_fn rfl (renL_c rfl (renL_c (ren_cptr ((TyOk.int .i64).cl _ _)) (renL_c (ren_cptr ((TyOk.int .i64).cl _ _)) rfl))))) (.c (lk 1 rfl rfl) (subren (ren_fn rfl (renL_c rfl (renL_c (ren_cptr ((TyOk.int .i64).cl _ _)) (renL_c (ren_cptr ((TyOk.int .i64).cl _ _)) rfl))))) (.c (lk 0 rfl rfl) (subren (ren_fn rfl (renL_c rfl rfl))) .nil)))) ((TyOk.int .i64).cl _ _) (mapc (ren_cells (ty_TCounter.cl _ _)) rfl) rfl) rfl rfl) trivial ?_
  refine S.sil 8 rfl rfl (fun _ hF => .assign (lk 0 rfl rfl)) ?_
  refine S.nil ?_
  refine thenQ_n ?_
  refine AWp.seq ?_
  refine W.reg [0, 1, 2, 3, 4, 5, 6] rfl ?_
  refine S.qui 14 rfl rfl (fun _ => .loadP sz28 ag28 (lk 10 rfl rfl) rfl .nil (by first | rfl | omega) (ty_TCounter.fl r4.2) rfl) ?_
  refine S.sil 15 rfl rfl (fun _ hF => .move (lk 1 rfl rfl)) ?_
  obtain ⟨r5, m5, h⟩ := h.bnd
  refine S.sil 16 rfl rfl (fun _ hF => .callQ ent118 cF (.c (lk 1 rfl rfl) (V.sub.refl _) (.c (lk 0 rfl rfl) (V.sub.refl _) .nil)) (C_counter_done m5)) ?_
  refine S.sil 17 rfl rfl (fun _ hF => .extract (lk 0 rfl rfl) rfl) ?_
  refine S.sil 18 rfl rfl (fun _ hF => .extract (lk 1 rfl rfl) rfl) ?_
  refine S.effN rfl rfl (.nf (H2 := [.cells (E_TCounter r4.2), .dead, .dead, .cells (E_TCounter r5.1)]) (.storeP sz28 (lk 12 rfl rfl) (lk 1 rfl rfl) rfl (.refl _) rfl .nil (by first | rfl | omega) .nil (ty_TCounter.fl r5.1) (ty_TCounter.fl (default : TCounter)) rfl) rfl rfl) trivial ?_
  refine S.sil 7 rfl rfl (fun _ hF => .assign (lk 0 rfl rfl)) ?_
  refine S.nil ?_
  refine thenQ_n ?_
  refine AWp.prune (.eq (lk 0 rfl rfl) rfl (.eq (lk 13 rfl rfl) rfl .nil)) ?_
  refine AWp.ret ?_
  refine endF_wk (Wk.freeze 3 rfl rfl (.same (lk 0 rfl rfl) (.cons (lk 1 rfl rfl) rfl (.ptr .nil (by first | rfl | omega)) .nil)) (.refl _)) ?_
  obtain rfl := h.ret
  exact endFN rfl (Wk.selS [] .nil rfl (SelE.leaf (lk 1 rfl rfl) rfl (.refl _) (fun m => (lt_cptr (ty_TCounter.lt _ _))) (SelE.leaf (lk 0 rfl rfl) rfl (.refl _) (fun m => ((TyOk.int .i64).lt _ _)) .nil)) .nil) (.cons (.cellC sz28 ag28 (lk 0 rfl rfl) (ty_TCounter.fl _) rfl) (.cons (.tmp (lk 1 rfl rfl) rfl) .nil)) rfl rfl rfl
theorem C_field_Add {a1 : TField} {a2 : Int} {a3 : Int} {r : TField × Int} (h : field_Add a1 a2 a3 = some r) : PureC Pg 30 [E_TField a1, (V.int .i64) a2, (V.int .i64) a3] (.tup [E_TField r.1, (V.int .i64) r.2]) := by
  refine PureC.ofF (CallSpec.of_bodyF 66 0 fn30 rfl rfl rfl (Nat.le_of_ble_eq_true rfl) ?_) (ltL_c (ty_TField.lt _ _) (ltL_c ((TyOk.int .i64).lt _ _) (ltL_c ((TyOk.int .i64).lt _ _) ltL_nil))) (lt_tup (ltL_c (ty_TField.lt _ _) (ltL_c ((TyOk.int .i64).lt _ _) ltL_nil)))
  replace h := Ok.of h
  unfold field_Add at h
  refine AWp.seq ?_
  refine W.reg [0, 1, 2] rfl ?_
  refine S.eff 3 rfl rfl (.nf (v2 := .ptr 0 [] 0) (H2 := [.cells (E_TField a1)]) (.box (lk 0 rfl rfl) rfl) rfl rfl) trivial ?_
  refine S.eff 6 rfl rfl (.nf (v2 := .ptr 1 [] 0) (H2 := [.cells (E_TField a1), .cells (.st [V.str (default : ByteArray), (V.int .i64) 0, (V.int .i64) 0, E_TCounter (default : TCounter), E_TLock (default : TLock), .nils])]) (.alloc zv33) rfl rfl) trivial ?_
  refine S.sil 7 rfl rfl (fun _ hF => .assign cI) ?_
  refine S.nil ?_
  refine thenQ_n ?_
  refine AWp.wk (Wk.freeze 0 rfl rfl (.same (lk 0 rfl rfl) (.same (lk 1 rfl rfl) (.cons (lk 2 rfl rfl) rfl (.ptr .nil (by first | rfl | omega)) (.same (lk 4 rfl rfl) (.same (lk 5 rfl rfl) .nil))))) (.refl _)) ?_
  refine AWp.seq ?_
  refine AWp.seq ?_
  refine W.reg [0, 1] rfl ?_
  refine S.sil 13 rfl rfl (fun _ hF => .move (lk 4 rfl rfl)) ?_
  refine S.sil 14 rfl rfl (fun _ hF => .geq (lk 0 rfl rfl) cI) ?_
  refine S.nil ?_
  refine thenQ_n ?_
  refine AWp.condM (lk 0 rfl rfl) h (fun c1 h => ?_) (fun c1 h => ?_)
  · skip
    refine AWp.seq ?_
    refine AWp.seq ?_
    refine W.reg [0, 1, 2] rfl ?_
    refine S.sil 15 rfl rfl (fun _ hF => .fieldAddrC lay33 rfl rfl (lk 4 rfl rfl) rfl (flL_c (show flen _ = 1 from rfl) flL_nil)) ?_
    refine S.sil 16 rfl rfl (fun _ hF => .loadC sz3 ag3 (lk 0 rfl rfl) rfl rfl) ?_
    refine S.sil 17 rfl rfl (fun _ hF => .neq (lk 0 rfl rfl) cI) ?_
    refine S.nil ?_
    refine thenQ_n ?_
    refine AWp.condM (lk 0 rfl rfl) h (fun c2 h => ?_) (fun c2 h => ?_)
    · skip
      refine AWp.seq ?_
      refine W.reg [0, 1, 2] rfl ?_
      obtain ⟨v4, ev4, h⟩ := h.nam
      refine S.sil 18 rfl rfl (fun _ hF => .nv (.vs (v := .st [V.str (default : ByteArray), (V.int .i64) 0, (V.int .i64) 0, E_TCounter (default : TCounter), E_TLock (default : TLock), .nils]) (v2 := E_TField (⟨(default : ByteArray), 0, 0, (default : TCounter), (default : TLock), ([] : List THold)⟩ : TField)) (.buildStW lay33 zv33 rfl .nil) rfl (.st (.cons (.refl _) (.cons (.refl _) (.cons (.refl _) (.cons (.refl _) (.cons (.refl _) (.cons (.nils_no _) .nil)))))))) (congrArg E_TField ev4.symm)) ?_
      refine S.effN rfl rfl (.nf (H2 := [.dead, .cells (E_TField v4)]) (.storeP sz33 (lk 7 rfl rfl) (lk 0 rfl rfl) rfl (.refl _) rfl .nil (by first | rfl | omega) .nil (ty_TField.fl v4) (fl_st (flL_c (show flen _ = 1 from rfl) (flL_c (show flen _ = 1 from rfl) (flL_c (show flen _ = 1 from rfl) (flL_c (ty_TCounter.fl (default : TCounter)) (flL_c (ty_TLock.fl (default : TLock)) (flL_c (show flen _ = 1 from rfl) flL_nil))))))) rfl) rfl rfl) trivial ?_
      refine S.sil 7 rfl rfl (fun _ hF => .assign cI) ?_
      refine S.nil ?_
      refine thenQ_n ?_
      refine AWp.ret ?_
      refine thenQ_r ?_
      refine thenQ_r ?_
      refine endF_wk (Wk.freeze 1 rfl rfl (.same (lk 0 rfl rfl) (.same (lk 0 rfl rfl) (.cons (lk 8 rfl rfl) rfl (.ptr .nil (by first | rfl | omega)) .nil))) (.refl _)) ?_
      obtain rfl := h.ret
      exact endFN rfl (Wk.selS [] .nil rfl (SelE.leaf (lk 2 rfl rfl) rfl (.refl _) (fun m => (lt_cptr (ty_TField.lt _ _))) (SelE.leaf (lk 0 rfl rfl) rfl (.refl _) (fun m => ((TyOk.int .i64).lt _ _)) .nil)) .nil) (.cons (.cellC sz33 ag33 (lk 0 rfl rfl) (ty_TField.fl _) rfl) (.cons (.tmp (lk 1 rfl rfl) rfl) .nil)) rfl rfl rfl
    · skip
      refine AWp.skip ?_
      refine thenQ_n ?_
      refine AWp.seq ?_
      refine W.reg [0, 1, 2, 3, 4, 5, 6, 7, 8, 9, 10] rfl ?_
      refine S.sil 20 rfl rfl (fun _ hF => .fieldAddrC lay33 rfl rfl (lk 7 rfl rfl) rfl (flL_c (show flen _ = 1 from rfl) (flL_c (show flen _ = 1 from rfl) (flL_c (show flen _ = 1 from rfl) flL_nil)))) ?_
      refine S.sil 21 rfl rfl (fun _ hF => .loadC sz28 ag28 (lk 0 rfl rfl) (ty_TCounter.fl a1.Counter) rfl) ?_
      refine S.sil 22 rfl rfl (fun _ hF => .move (lk 10 rfl rfl)) ?_
      refine S.sil 23 rfl rfl (fun _ hF => .move (lk 12 rfl rfl)) ?_
      obtain ⟨r5, m5, h⟩ := h.bnd
      refine S.sil 24 rfl rfl (fun _ hF => .callQ ent62 cF (.c (lk 2 rfl rfl) (V.sub.refl _) (.c (lk 1 rfl rfl) (V.sub.refl _) (.c (lk 0 rfl rfl) (V.sub.refl _) .nil))) (C_counter_Inc m5)) ?_
      refine S.sil 19 rfl rfl (fun _ hF => .move (lk 0 rfl rfl)) ?_
      refine S.sil 25 rfl rfl (fun _ hF => .extract (lk 0 rfl rfl) rfl) ?_
      refine S.sil 26 rfl rfl (fun _ hF => .extract (lk 1 rfl rfl) rfl) ?_
      refine S.eff 8 rfl rfl (.nf (v2 := .ptr 2 [] 0) (H2 := [.dead, .cells (.st [V.str (default : ByteArray), (V.int .i64) 0, (V.int .i64) 0, E_TCounter (default : TCounter), E_TLock (default : TLock), .nils]), .cells (E_TCounter (default : TCounter))]) (.alloc zv28) rfl rfl) trivial ?_
      refine S.effN rfl rfl (.nf (H2 := [.dead, .cells (.st [V.str (default : ByteArray), (V.int .i64) 0, (V.int .i64) 0, E_TCounter (default : TCounter), E_TLock (default : TLock), .nils]), .cells (E_TCounter r5.1)]) (.storeP sz28 (lk 0 rfl rfl) (lk 2 rfl rfl) rfl (.refl _) rfl .nil (by first | rfl | omega) .nil (ty_TCounter.fl r5.1) (ty_TCounter.fl (default : TCounter)) rfl) rfl rfl) trivial ?_
      refine S.sil 9 rfl rfl (fun _ hF => .assign (lk 1 rfl rfl)) ?_
      refine S.nil ?_
      refine thenQ_n ?_
      refine AWp.wk (Wk.freeze 2 rfl rfl (.same (lk 0 rfl rfl) (.cons (lk 1 rfl rfl) rfl (.ptr .nil (by first | rfl | omega)) (.same (lk 15 rfl rfl) (.same (lk 16 rfl rfl) (.same (lk 17 rfl rfl) (.same (lk 18 rfl rfl) (.same (lk 19 rfl rfl) .nil))))))) (.refl _)) ?_
      refine AWp.seq ?_
      refine W.reg [0, 1, 2, 3, 4, 5, 6, 7] rfl ?_
      refine S.sil 27 rfl rfl (fun _ hF => .loadC sz33 ag33 (lk 4 rfl rfl) (ty_TField.fl a1) rfl) ?_
      refine S.sil 28 rfl rfl (fun _ hF => .loadC sz28 ag28 (lk 2 rfl rfl) (ty_TCounter.fl r5.1) rfl) ?_
      refine S.sil 29 rfl rfl (fun _ hF => .move (lk 2 rfl rfl)) ?_
      obtain ⟨r6, m6, h⟩ := h.bnd
      refine S.sil 30 rfl rfl (fun _ hF => .callQ ent63 cF (.c (lk 2 rfl rfl) (V.sub.refl _) (.c (lk 1 rfl rfl) (V.sub.refl _) (.c (lk 0 rfl rfl) (V.sub.refl _) .nil))) (C_field_changed m6)) ?_
      refine S.sil 31 rfl rfl (fun _ hF => .extract (lk 0 rfl rfl) rfl) ?_
      refine S.sil 32 rfl rfl (fun _ hF => .extract (lk 1 rfl rfl) rfl) ?_
      refine S.effN rfl rfl (.nf (H2 := [.dead, .cells (E_TField r6.1), .dead]) (.storeP sz33 (lk 9 rfl rfl) (lk 1 rfl rfl) rfl (.refl _) rfl .nil (by first | rfl | omega) .nil (ty_TField.fl r6.1) (fl_st (flL_c (show flen _ = 1 from rfl) (flL_c (show flen _ = 1 from rfl) (flL_c (show flen _ = 1 from rfl) (flL_c (ty_TCounter.fl (default : TCounter)) (flL_c (ty_TLock.fl (default : TLock)) (flL_c (show flen _ = 1 from rfl) flL_nil))))))) rfl) rfl rfl) trivial ?_
      refine S.sil 7 rfl rfl (fun _ hF => .assign (lk 0 rfl rfl)) ?_
      refine S.nil ?_
      refine thenQ_n ?_
      refine AWp.ret ?_
      refine thenQ_r ?_
      refine endF_wk (Wk.freeze 1 rfl rfl (.same (lk 0 rfl rfl) (.same (lk 0 rfl rfl) (.cons (lk 10 rfl rfl) rfl (.ptr .nil (by first | rfl | omega)) .nil))) (.refl _)) ?_
      obtain rfl := h.ret
      exact endFN rfl (Wk.selS [] .nil rfl (SelE.leaf (lk 2 rfl rfl) rfl (.refl _) (fun m => (lt_cptr (ty_TField.lt _ _))) (SelE.leaf (lk 0 rfl rfl) rfl (.refl _) (fun m => ((TyOk.int .i64).lt _ _)) .nil)) .nil) (.cons (.cellC sz33 ag33 (lk 0 rfl rfl) (ty_TField.fl _) rfl) (.cons (.tmp (lk 1 rfl rfl) rfl) .nil)) rfl rfl rfl
  · skip
    refine AWp.skip ?_
    refine thenQ_n ?_
    refine AWp.seq ?_
    refine AWp.seq ?_
    refine W.reg [0, 1, 2, 3, 4, 5, 6, 7] rfl ?_
    refine S.sil 33 rfl rfl (fun _ hF => .fieldAddrC lay33 rfl rfl (lk 4 rfl rfl) rfl (flL_c (show flen _ = 1 from rfl) flL_nil)) ?_
    refine S.sil 34 rfl rfl (fun _ hF => .loadC sz3 ag3 (lk 0 rfl rfl) rfl rfl) ?_
    refine S.sil 35 rfl rfl (fun _ hF => .eql (lk 0 rfl rfl) cI) ?_
    refine S.sil 36 rfl rfl (fun _ hF => .move (lk 0 rfl rfl)) ?_
    refine S.gsil 37 3 36 true rfl rfl rfl (lk 0 rfl rfl) (fun hB _ hF => .move (lk 10 rfl rfl)) ?_
    obtain ⟨r7, m7, h⟩ := h.bnd
    refine S.gsil 38 3 36 true rfl rfl rfl (lk 1 rfl rfl) (fun hB _ hF => .callQ ent64 cF (.c (ifT hB (lk 0 rfl rfl)) (V.sub.refl _) .nil) (C_num_Is (gd_get m7 hB))) ?_
    refine S.gsil 39 3 36 true rfl rfl rfl (lk 2 rfl rfl) (fun hB _ hF => .not (ifT hB (lk 0 rfl rfl))) ?_
    refine S.sil 40 rfl rfl (fun _ hF => .pickAnd (lk 3 rfl rfl) (fun h => ifT h (lk 0 rfl rfl)) cB) ?_
    refine S.nil ?_
    refine thenQ_n ?_
    refine AWp.condM (lk 0 rfl rfl) h (fun c3 h => ?_) (fun c3 h => ?_)
    · skip
      refine AWp.seq ?_
      refine W.reg [0, 1, 2] rfl ?_
      obtain ⟨v8, ev8, h⟩ := h.nam
      refine S.sil 41 rfl rfl (fun _ hF => .nv (.vs (v := .st [V.str (default : ByteArray), (V.int .i64) 0, (V.int .i64) 0, E_TCounter (default : TCounter), E_TLock (default : TLock), .nils]) (v2 := E_TField (⟨(default : ByteArray), 0, 0, (default : TCounter), (default : TLock), ([] : List THold)⟩ : TField)) (.buildStW lay33 zv33 rfl .nil) rfl (.st (.cons (.refl _) (.cons (.refl _) (.cons (.refl _) (.cons (.refl _) (.cons (.refl _) (.cons (.nils_no _) .nil)))))))) (congrArg E_TField ev8.symm)) ?_
      refine S.effN rfl rfl (.nf (H2 := [.dead, .cells (E_TField v8)]) (.storeP sz33 (lk 12 rfl rfl) (lk 0 rfl rfl) rfl (.refl _) rfl .nil (by first | rfl | omega) .nil (ty_TField.fl v8) (fl_st (flL_c (show flen _ = 1 from rfl) (flL_c (show flen _ = 1 from rfl) (flL_c (show flen _ = 1 from rfl) (flL_c (ty_TCounter.fl (default : TCounter)) (flL_c (ty_TLock.fl (default : TLock)) (flL_c (show flen _ = 1 from rfl) flL_nil))))))) rfl) rfl rfl) trivial ?_
      refine S.sil 7 rfl rfl (fun _ hF => .assign cI) ?_
      refine S.nil ?_
      refine thenQ_n ?_
      refine AWp.prune (.eq (lk 0 rfl rfl) rfl (.eq (lk 13 rfl rfl) rfl (.eq (lk 14 rfl rfl) rfl (.eq (lk 15 rfl rfl) rfl (.eq (lk 16 rfl rfl) rfl .nil))))) ?_
      refine AWp.ret ?_
      refine thenQ_r ?_
      refine endF_wk (Wk.freeze 1 rfl rfl (.same (lk 0 rfl rfl) (.cons (lk 1 rfl rfl) rfl (.ptr .nil (by first | rfl | omega)) .nil)) (.refl _)) ?_
      obtain rfl := h.ret
      exact endFN rfl (Wk.selS [] .nil rfl (SelE.leaf (lk 1 rfl rfl) rfl (.refl _) (fun m => (lt_cptr (ty_TField.lt _ _))) (SelE.leaf (lk 0 rfl rfl) rfl (.refl _) (fun m => ((TyOk.int .i64).lt _ _)) .nil)) .nil) (.cons (.cellC sz33 ag33 (lk 0 rfl rfl) (ty_TField.fl _) rfl) (.cons (.tmp (lk 1 rfl rfl) rfl) .nil)) rfl rfl rfl
    · skip
      refine AWp.skip ?_
      refine thenQ_n ?_
      refine AWp.prune (.eq (lk 10 rfl rfl) rfl (.eq (lk 11 rfl rfl) rfl (.eq (lk 12 rfl rfl) rfl (.eq (lk 13 rfl rfl) rfl (.eq (lk 14 rfl rfl) rfl .nil))))) ?_
      refine AWp.seq ?_
      refine AWp.seq ?_
      refine W.reg [0, 1, 2, 3, 4, 5] rfl ?_
      refine S.sil 42 rfl rfl (fun _ hF => .loadC sz33 ag33 (lk 2 rfl rfl) (ty_TField.fl a1) rfl) ?_
      refine S.sil 43 rfl rfl (fun _ hF => .move (lk 4 rfl rfl)) ?_
      refine S.sil 44 rfl rfl (fun _ hF => .move (lk 6 rfl rfl)) ?_
      refine S.sil 45 rfl rfl (fun _ hF => .neg (lk 0 rfl rfl)) ?_
      obtain ⟨r9, m9, h⟩ := h.bnd
      refine S.sil 46 rfl rfl (fun _ hF => .callQ ent65 cF (.c (lk 3 rfl rfl) (V.sub.refl _) (.c (lk 2 rfl rfl) (V.sub.refl _) (.c (lk 0 rfl rfl) (V.sub.refl _) .nil))) (C_field_lacks m9)) ?_
      refine S.sil 10 rfl rfl (fun _ hF => .assign (lk 0 rfl rfl)) ?_
      refine S.nil ?_
      refine thenQ_n ?_
      refine AWp.seq ?_
      refine W.reg [0, 1] rfl ?_
      refine S.sil 47 rfl rfl (fun _ hF => .move (lk 0 rfl rfl)) ?_
      refine S.sil 48 rfl rfl (fun _ hF => .neq (lk 0 rfl rfl) cI) ?_
      refine S.nil ?_
      refine thenQ_n ?_
      refine AWp.condM (lk 0 rfl rfl) h (fun c4 h => ?_) (fun c4 h => ?_)
      · skip
        refine AWp.seq ?_
        refine W.reg [0, 1, 2, 3] rfl ?_
        obtain ⟨v10, ev10, h⟩ := h.nam
        refine S.sil 49 rfl rfl (fun _ hF => .nv (.vs (v := .st [V.str (default : ByteArray), (V.int .i64) 0, (V.int .i64) 0, E_TCounter (default : TCounter), E_TLock (default : TLock), .nils]) (v2 := E_TField (⟨(default : ByteArray), 0, 0, (default : TCounter), (default : TLock), ([] : List THold)⟩ : TField)) (.buildStW lay33 zv33 rfl .nil) rfl (.st (.cons (.refl _) (.cons (.refl _) (.cons (.refl _) (.cons (.refl _) (.cons (.refl _) (.cons (.nils_no _) .nil)))))))) (congrArg E_TField ev10.symm)) ?_
        refine S.sil 50 rfl rfl (fun _ hF => .move (lk 3 rfl rfl)) ?_
        refine S.effN rfl rfl (.nf (H2 := [.dead, .cells (E_TField v10)]) (.storeP sz33 (lk 11 rfl rfl) (lk 1 rfl rfl) rfl (.refl _) rfl .nil (by first | rfl | omega) .nil (ty_TField.fl v10) (fl_st (flL_c (show flen _ = 1 from rfl) (flL_c (show flen _ = 1 from rfl) (flL_c (show flen _ = 1 from rfl) (flL_c (ty_TCounter.fl (default : TCounter)) (flL_c (ty_TLock.fl (default : TLock)) (flL_c (show flen _ = 1 from rfl) flL_nil))))))) rfl) rfl rfl) trivial ?_
        refine S.sil 7 rfl rfl (fun _ hF => .assign (lk 0 rfl rfl)) ?_
        refine S.nil ?_
        refine thenQ_n ?_
        refine AWp.prune (.eq (lk 0 rfl rfl) rfl (.eq (lk 12 rfl rfl) rfl (.eq (lk 13 rfl rfl) rfl (.eq (lk 14 rfl rfl) rfl (.eq (lk 15 rfl rfl) rfl .nil))))) ?_
        refine AWp.ret ?_
        refine thenQ_r ?_
        refine endF_wk (Wk.freeze 1 rfl rfl (.same (lk 0 rfl rfl) (.cons (lk 1 rfl rfl) rfl (.ptr .nil (by first | rfl | omega)) .nil)) (.refl _)) ?_
        obtain rfl := h.ret
        exact endFN rfl (Wk.selS [] .nil rfl (SelE.leaf (lk 1 rfl rfl) rfl (.refl _) (fun m => (lt_cptr (ty_TField.lt _ _))) (SelE.leaf (lk 0 rfl rfl) rfl (.refl _) (fun m => ((TyOk.int .i64).lt _ _)) .nil)) .nil) (.cons (.cellC sz33 ag33 (lk 0 rfl rfl) (ty_TField.fl _) rfl) (.cons (.tmp (lk 1 rfl rfl) rfl) .nil)) rfl rfl rfl
      · skip
        refine AWp.skip ?_
        refine thenQ_n ?_
        refine AWp.seq ?_
        refine W.reg [0, 1, 2, 3, 4, 5, 6, 7, 8, 9, 10, 11] rfl ?_
        refine S.sil 52 rfl rfl (fun _ hF => .fieldAddrC lay33 rfl rfl (lk 10 rfl rfl) rfl (flL_c (show flen _ = 1 from rfl) (flL_c (show flen _ = 1 from rfl) (flL_c (show flen _ = 1 from rfl) flL_nil)))) ?_
        refine S.sil 53 rfl rfl (fun _ hF => .loadC sz28 ag28 (lk 0 rfl rfl) (ty_TCounter.fl a1.Counter) rfl) ?_
        refine S.sil 54 rfl rfl (fun _ hF => .move (lk 13 rfl rfl)) ?_
        refine S.sil 55 rfl rfl (fun _ hF => .move (lk 15 rfl rfl)) ?_
        refine S.sil 56 rfl rfl (fun _ hF => .neg (lk 0 rfl rfl)) ?_
        obtain ⟨r11, m11, h⟩ := h.bnd
        refine S.sil 57 rfl rfl (fun _ hF => .callQ ent66 cF (.c (lk 3 rfl rfl) (V.sub.refl _) (.c (lk 2 rfl rfl) (V.sub.refl _) (.c (lk 0 rfl rfl) (V.sub.refl _) .nil))) (C_counter_Dec m11)) ?_
        refine S.sil 51 rfl rfl (fun _ hF => .move (lk 0 rfl rfl)) ?_
        refine S.sil 58 rfl rfl (fun _ hF => .extract (lk 0 rfl rfl) rfl) ?_
        refine S.sil 59 rfl rfl (fun _ hF => .extract (lk 1 rfl rfl) rfl) ?_
        refine S.eff 11 rfl rfl (.nf (v2 := .ptr 2 [] 0) (H2 := [.dead, .cells (.st [V.str (default : ByteArray), (V.int .i64) 0, (V.int .i64) 0, E_TCounter (default : TCounter), E_TLock (default : TLock), .nils]), .cells (E_TCounter (default : TCounter))]) (.alloc zv28) rfl rfl) trivial ?_
        refine S.effN rfl rfl (.nf (H2 := [.dead, .cells (.st [V.str (default : ByteArray), (V.int .i64) 0, (V.int .i64) 0, E_TCounter (default : TCounter), E_TLock (default : TLock), .nils]), .cells (E_TCounter r11.1)]) (.storeP sz28 (lk 0 rfl rfl) (lk 2 rfl rfl) rfl (.refl _) rfl .nil (by first | rfl | omega) .nil (ty_TCounter.fl r11.1) (ty_TCounter.fl (default : TCounter)) rfl) rfl rfl) trivial ?_
        refine S.sil 12 rfl rfl (fun _ hF => .assign (lk 1 rfl rfl)) ?_
        refine S.nil ?_
        refine thenQ_n ?_
        refine AWp.wk (Wk.freeze 2 rfl rfl (.same (lk 0 rfl rfl) (.cons (lk 1 rfl rfl) rfl (.ptr .nil (by first | rfl | omega)) (.same (lk 19 rfl rfl) (.same (lk 20 rfl rfl) (.same (lk 21 rfl rfl) .nil))))) (.refl _)) ?_
        refine AWp.seq ?_
        refine W.reg [0, 1, 2, 3, 4, 5, 6, 7] rfl ?_
        refine S.sil 60 rfl rfl (fun _ hF => .loadC sz33 ag33 (lk 4 rfl rfl) (ty_TField.fl a1) rfl) ?_
        refine S.sil 61 rfl rfl (fun _ hF => .loadC sz28 ag28 (lk 2 rfl rfl) (ty_TCounter.fl r11.1) rfl) ?_
        refine S.sil 62 rfl rfl (fun _ hF => .move (lk 2 rfl rfl)) ?_
        obtain ⟨r12, m12, h⟩ := h.bnd
        refine S.sil 63 rfl rfl (fun _ hF => .callQ ent63 cF (.c (lk 2 rfl rfl) (V.sub.refl _) (.c (lk 1 rfl rfl) (V.sub.refl _) (.c (lk 0 rfl rfl) (V.sub.refl _) .nil))) (C_field_changed m12)) ?_
        refine S.sil 64 rfl rfl (fun _ hF => .extract (lk 0 rfl rfl) rfl) ?_
        refine S.sil 65 rfl rfl (fun _ hF => .extract (lk 1 rfl rfl) rfl) ?_
        refine S.effN rfl rfl (.nf (H2 := [.dead, .cells (E_TField r12.1), .dead]) (.storeP sz33 (lk 9 rfl rfl) (lk 1 rfl rfl) rfl (.refl _) rfl .nil (by first | rfl | omega) .nil (ty_TField.fl r12.1) (fl_st (flL_c (show flen _ = 1 from rfl) (flL_c (show flen _ = 1 from rfl) (flL_c (show flen _ = 1 from rfl) (flL_c (ty_TCounter.fl (default : TCounter)) (flL_c (ty_TLock.fl (default : TLock)) (flL_c (show flen _ = 1 from rfl) flL_nil))))))) rfl) rfl rfl) trivial ?_
        refine S.sil 7 rfl rfl (fun _ hF => .assign (lk 0 rfl rfl)) ?_
        refine S.nil ?_
        refine thenQ_n ?_
        refine AWp.prune (.eq (lk 0 rfl rfl) rfl (.eq (lk 10 rfl rfl) rfl .nil)) ?_
        refine AWp.ret ?_
        refine endF_wk (Wk.freeze 1 rfl rfl (.same (lk 0 rfl rfl) (.cons (lk 1 rfl rfl) rfl (.ptr .nil (by first | rfl | omega)) .nil)) (.refl _)) ?_
        obtain rfl := h.ret
        exact endFN rfl (Wk.selS [] .nil rfl (SelE.leaf (lk 1 rfl rfl) rfl (.refl _) (fun m => (lt_cptr (ty_TField.lt _ _))) (SelE.leaf (lk 0 rfl rfl) rfl (.refl _) (fun m => ((TyOk.int .i64).lt _ _)) .nil)) .nil) (.cons (.cellC sz33 ag33 (lk 0 rfl rfl) (ty_TField.fl _) rfl) (.cons (.tmp (lk 1 rfl rfl) rfl) .nil)) rfl rfl rfl
theorem C_hold_place_1 {a1 : THold} {a2 : Int} {a3 : Int} {r : Bool} (h : hold_place_1 a1 a2 a3 = some r) : PureC Pg 181 [E_THold a1, .cptr ((V.int .i64) a2), .cptr ((V.int .i64) a3)] (V.bool r) := by
  refine PureC.ofF (CallSpec.of_bodyF 15 0 fn181 rfl rfl rfl (Nat.le_of_ble_eq_true rfl) ?_) (ltL_c (ty_THold.lt _ _) (ltL_c (lt_cptr ((TyOk.int .i64).lt _ _)) (ltL_c (lt_cptr ((TyOk.int .i64).lt _ _)) ltL_nil))) (TyOk.bool.lt _ _)
  replace h := Ok.of h
  unfold hold_place_1 at h
  refine AWp.seq ?_
  refine W.reg [0, 1] rfl ?_
  refine S.eff 3 rfl rfl (.nf (v2 := .ptr 0 [] 0) (H2 := [.cells (E_THold a1)]) (.box (lk 0 rfl rfl) rfl) rfl rfl) trivial ?_
  refine S.sil 4 rfl rfl (fun _ hF => .assign cB) ?_
  refine S.nil ?_
  refine thenQ_n ?_
  refine AWp.wk (Wk.freeze 0 rfl rfl (.same (lk 0 rfl rfl) (.cons (lk 1 rfl rfl) rfl (.ptr .nil (by first | rfl | omega)) (.same (lk 3 rfl rfl) (.same (lk 4 rfl rfl) .nil)))) (.refl _)) ?_
  refine AWp.seq ?_
  refine W.reg [0, 1, 2, 3, 4, 5, 6, 7, 8, 9, 10] rfl ?_
  refine S.sil 5 rfl rfl (fun _ hF => .fieldAddrC lay66 rfl rfl (lk 1 rfl rfl) rfl flL_nil) ?_
  refine S.sil 6 rfl rfl (fun _ hF => .loadC sz3 ag3 (lk 0 rfl rfl) rfl rfl) ?_
  refine S.sil 7 rfl rfl (fun _ hF => .loadC sz3 ag3 (lk 4 rfl rfl) rfl rfl) ?_
  refine S.sil 8 rfl rfl (fun _ hF => .eql (lk 1 rfl rfl) (lk 0 rfl rfl)) ?_
  refine S.sil 9 rfl rfl (fun _ hF => .move (lk 0 rfl rfl)) ?_
  refine S.gsil 10 4 9 true rfl rfl rfl (lk 0 rfl rfl) (fun hB _ hF => .fieldAddrC lay66 rfl rfl (lk 6 rfl rfl) rfl (flL_c (show flen _ = 1 from rfl) flL_nil)) ?_
  refine S.gsil 11 4 9 true rfl rfl rfl (lk 1 rfl rfl) (fun hB _ hF => .loadC sz3 ag3 (ifT hB (lk 0 rfl rfl)) rfl rfl) ?_
  refine S.gsil 12 4 9 true rfl rfl rfl (lk 2 rfl rfl) (fun hB _ hF => .loadC sz3 ag3 (lk 10 rfl rfl) rfl rfl) ?_
  refine S.gsil 13 4 9 true rfl rfl rfl (lk 3 rfl rfl) (fun hB _ hF => .eql (ifT hB (lk 1 rfl rfl)) (ifT hB (lk 0 rfl rfl))) ?_
  refine S.sil 14 rfl rfl (fun _ hF => .pickAnd (lk 4 rfl rfl) (fun h => ifT h (lk 0 rfl rfl)) cB) ?_
  obtain ⟨v4, ev4, h⟩ := h.nam
  refine S.sil 4 rfl rfl (fun _ hF => .nv (.assign (lk 0 rfl rfl)) (congrArg V.bool ev4.symm)) ?_
  refine S.nil ?_
  refine thenQ_n ?_
  refine AWp.prune (.eq (lk 0 rfl rfl) rfl .nil) ?_
  refine AWp.ret ?_
  obtain rfl := h.ret
  exact endF1 rfl (Wk.selS [] .nil rfl (SelE.leaf (lk 0 rfl rfl) rfl (.refl _) (fun m => (TyOk.bool.lt _ _)) .nil) .nil) (.tmp (lk 0 rfl rfl) rfl) rfl rfl
theorem C_slices_IndexFunc_Hold_place_1 {a1 : List THold} {a2 : Int} {a3 : Int} {r : Int} (h : slices_IndexFunc_Hold_place_1 a1 a2 a3 = some r) : PureC Pg 136 [.sl 5 .no (List.map E_THold a1), .fn 181 [] [.cptr ((V.int .i64) a2), .cptr ((V.int .i64) a3)]] ((V.int .i64) r) := by
  refine PureC.ofF (CallSpec.of_bodyF 19 0 fn136 rfl rfl rfl (Nat.le_of_ble_eq_true rfl) ?_) (ltL_c (lt_sl rfl (ty_THold.ltm _ _)) (ltL_c (lt_fn ltL_nil (ltL_c (lt_cptr ((TyOk.int .i64).lt _ _)) (ltL_c (lt_cptr ((TyOk.int .i64).lt _ _)) ltL_nil))) ltL_nil)) ((TyOk.int .i64).lt _ _)
  replace h := Ok.of h
  unfold slices_IndexFunc_Hold_place_1 at h
  refine AWp.seq ?_
  refine W.reg [0] rfl ?_
  refine S.sil 4 rfl rfl (fun _ hF => .assign cI) ?_
  refine S.nil ?_
  refine thenQ_n ?_
  refine AWp.seq ?_
  refine AWp.seq ?_
  refine W.reg [0, 1, 2] rfl ?_
  refine S.sil 6 rfl rfl (fun _ hF => .move (lk 1 rfl rfl)) ?_
  refine S.sil 7 rfl rfl (fun _ hF => .lenT sli31 (lk 0 rfl rfl) (vsub rfl (.refl _))) ?_
  refine S.sil 8 rfl rfl (fun _ hF => .move cI) ?_
  refine S.nil ?_
  refine thenQ_n ?_
  refine AWp.cutL (fun x6 => ⟨[(4, (V.int .i64) 0)], []⟩) nc_then h (fun q4 hq4 h => ?_) (fun x6 h => ?_)
  · refine AWp.block ?_
    refine AWp.loopT (fun s5 => ⟨[(8, (V.int .i64) s5), (7, (V.int .i64) (a1.length : Int)), (4, (V.int .i64) 0), (0, .sl 5 .no (List.map E_THold a1)), (1, .fn 181 [] [.cptr ((V.int .i64) a2), .cptr ((V.int .i64) a3)])], []⟩) hq4 (Wk.selS [] (by decide) rfl (SelE.leaf (lk 0 rfl rfl) rfl (.refl _) (fun m => ((TyOk.int .i64).lt _ _)) (SelE.leaf (lk 1 rfl rfl) rfl (.refl _) (fun m => ((TyOk.int .i64).lt _ _)) (SelE.leaf (lk 3 rfl rfl) rfl (.refl _) (fun m => ((TyOk.int .i64).lt _ _)) (SelE.leaf (lk 4 rfl rfl) rfl (.refl _) (fun m => (lt_sl rfl (ty_THold.ltm _ _))) (SelE.leaf (lk 5 rfl rfl) rfl (.refl _) (fun m => (lt_fn ltL_nil (ltL_c (lt_cptr ((TyOk.int .i64).lt _ _)) (ltL_c (lt_cptr ((TyOk.int .i64).lt _ _)) ltL_nil)))) .nil))))) .nil) (fun _ s5 h4 => ?_)
    rw [slices_IndexFunc_Hold_place_1_L1] at h4
    refine AWp.seq ?_
    refine W.reg [0] rfl ?_
    refine S.sil 9 rfl rfl (fun _ hF => .lss (lk 0 rfl rfl) (lk 1 rfl rfl)) ?_
    refine S.nil ?_
    refine thenQ_n ?_
    refine AWp.seq ?_
    refine AWp.condM (lk 0 rfl rfl) h4 (fun c1 h4 => ?_) (fun c1 h4 => ?_)
    · skip
      refine AWp.skip ?_
      refine thenQ_n ?_
      refine AWp.seq ?_
      refine AWp.block ?_
      refine AWp.seq ?_
      refine W.reg [0, 1] rfl ?_
      refine S.sil 10 rfl rfl (fun _ hF => .move (lk 1 rfl rfl)) ?_
      refine S.sil 5 rfl rfl (fun _ hF => .assign (lk 0 rfl rfl)) ?_
      refine S.nil ?_
      refine thenQ_n ?_
      refine AWp.seq ?_
      refine W.reg [0, 1, 2, 3, 4, 5] rfl ?_
      refine S.sil 11 rfl rfl (fun _ hF => .move (lk 7 rfl rfl)) ?_
      refine S.sil 12 rfl rfl (fun _ hF => .move (lk 7 rfl rfl)) ?_
      refine S.sil 13 rfl rfl (fun _ hF => .move (lk 2 rfl rfl)) ?_
      obtain ⟨j7, m7, h4⟩ := h4.bnd
      refine S.sil 14 rfl rfl (fun _ hF => .ixS sli31 (lk 1 rfl rfl) (lk 0 rfl rfl) m7) ?_
      obtain ⟨v8, ev8, h4⟩ := h4.nam
      refine S.sil 15 rfl rfl (fun _ hF => .nv (.loadC sz66 ag66 (lk 0 rfl rfl) (ty_THold.fl (a1.getD j7 default)) rfl) (congrArg E_THold ev8.symm)) ?_
      obtain ⟨r9, m9, h4⟩ := h4.bnd
      refine S.sil 16 rfl rfl (fun _ hF => .callQ ent181 (lk 4 rfl rfl) (.c (lk 0 rfl rfl) (V.sub.refl _) (.cons (.refl _) (.cons (.refl _) .nil))) (C_hold_place_1 m9)) ?_
      refine S.nil ?_
      refine thenQ_n ?_
      refine AWp.condM (lk 0 rfl rfl) h4 (fun c2 h4 => ?_) (fun c2 h4 => ?_)
      · skip
        refine AWp.seq ?_
        refine W.reg [0, 1] rfl ?_
        refine S.sil 17 rfl rfl (fun _ hF => .move (lk 6 rfl rfl)) ?_
        refine S.sil 4 rfl rfl (fun _ hF => .assign (lk 0 rfl rfl)) ?_
        refine S.nil ?_
        refine thenQ_n ?_
        refine AWp.ret ?_
        refine blockQ_r ?_
        refine thenQ_r ?_
        refine thenQ_r ?_
        refine blockQ_r ?_
        refine thenQ_r ?_
        refine thenQ_r ?_
        have h := Ok.inrq h h4.ret
        obtain rfl := h.ret
        exact endF1 rfl (Wk.selS [] .nil rfl (SelE.leaf (lk 0 rfl rfl) rfl (.refl _) (fun m => ((TyOk.int .i64).lt _ _)) .nil) .nil) (.tmp (lk 0 rfl rfl) rfl) rfl rfl
      · skip
        refine AWp.skip ?_
        refine blockQ_n ?_
        refine thenQ_n ?_
        refine W.reg [0, 1] rfl ?_
        refine S.sil 18 rfl rfl (fun _ hF => .add (lk 9 rfl rfl) cI) ?_
        refine S.sil 8 rfl rfl (fun _ hF => .move (lk 0 rfl rfl)) ?_
        refine S.nil ?_
        refine thenQ_n ?_
        exact ⟨_, h4.ret, (Wk.selS [] (by decide) rfl (SelE.leaf (lk 0 rfl rfl) rfl (.refl _) (fun m => ((TyOk.int .i64).lt _ _)) (SelE.leaf (lk 12 rfl rfl) rfl (.refl _) (fun m => ((TyOk.int .i64).lt _ _)) (SelE.leaf (lk 13 rfl rfl) rfl (.refl _) (fun m => ((TyOk.int .i64).lt _ _)) (SelE.leaf (lk 14 rfl rfl) rfl (.refl _) (fun m => (lt_sl rfl (ty_THold.ltm _ _))) (SelE.leaf (lk 15 rfl rfl) rfl (.refl _) (fun m => (lt_fn ltL_nil (ltL_c (lt_cptr ((TyOk.int .i64).lt _ _)) (ltL_c (lt_cptr ((TyOk.int .i64).lt _ _)) ltL_nil)))) .nil))))) .nil)⟩
    · skip
      refine AWp.exit ?_
      refine thenQ_x ?_
      refine thenQ_x ?_
      refine blockQ_x ?_
      refine thenQ_n ?_
      exact ⟨_, h4.ret, (Wk.selS [] (by decide) rfl (SelE.leaf (lk 3 rfl rfl) rfl (.refl _) (fun m => ((TyOk.int .i64).lt _ _)) .nil) .nil)⟩
  · skip
    refine thenQ_n ?_
    refine AWp.seq ?_
    refine W.reg [0] rfl ?_
    refine S.sil 4 rfl rfl (fun _ hF => .assign cI) ?_
    refine S.nil ?_
    refine thenQ_n ?_
    refine AWp.ret ?_
    obtain rfl := h.ret
    exact endF1 rfl (Wk.selS [] .nil rfl (SelE.leaf (lk 0 rfl rfl) rfl (.refl _) (fun m => ((TyOk.int .i64).lt _ _)) .nil) .nil) (.tmp (lk 0 rfl rfl) rfl) rfl rfl
theorem C_hold_place {a1 : List THold} {a2 : Int} {a3 : Int} {r : Int} (h : hold_place a1 a2 a3 = some r) : PureC Pg 151 [.sl 5 .no (List.map E_THold a1), (V.int .i64) a2, (V.int .i64) a3] ((V.int .i64) r) := by
  refine PureC.ofF (CallSpec.of_bodyF 10 0 fn151 rfl rfl rfl (Nat.le_of_ble_eq_true rfl) ?_) (ltL_c (lt_sl rfl (ty_THold.ltm _ _)) (ltL_c ((TyOk.int .i64).lt _ _) (ltL_c ((TyOk.int .i64).lt _ _) ltL_nil))) ((TyOk.int .i64).lt _ _)
  replace h := Ok.of h
  unfold hold_place at h
  refine AWp.seq ?_
  refine W.reg [0, 1, 2] rfl ?_
  refine S.eff 4 rfl rfl (.nf (v2 := .ptr 0 [] 0) (H2 := [.cells ((V.int .i64) a2)]) (.box (lk 1 rfl rfl) rfl) rfl rfl) trivial ?_
  refine S.eff 5 rfl rfl (.nf (v2 := .ptr 1 [] 0) (H2 := [.cells ((V.int .i64) a2), .cells ((V.int .i64) a3)]) (.box (lk 3 rfl rfl) rfl) rfl rfl) trivial ?_
  refine S.sil 6 rfl rfl (fun _ hF => .assign cI) ?_
  refine S.nil ?_
  refine thenQ_n ?_
  refine AWp.wk (Wk.freeze 0 rfl rfl (.same (lk 0 rfl rfl) (.same (lk 1 rfl rfl) (.cons (lk 2 rfl rfl) rfl (.ptr .nil (by first | rfl | omega)) (.same (lk 3 rfl rfl) .nil)))) (.refl _)) ?_
  refine AWp.wk (Wk.freeze 1 rfl rfl (.same (lk 0 rfl rfl) (.cons (lk 1 rfl rfl) rfl (.ptr .nil (by first | rfl | omega)) (.same (lk 2 rfl rfl) (.same (lk 3 rfl rfl) .nil)))) (.refl _)) ?_
  refine AWp.seq ?_
  refine W.reg [0, 1, 2, 3] rfl ?_
  refine S.sil 7 rfl rfl (fun _ hF => .move (lk 3 rfl rfl)) ?_
  refine S.sil 8 rfl rfl (fun _ hF => .makeFunc rfl (mapE2 (lk 3 rfl rfl) (lk 2 rfl rfl)) rfl rfl) ?_
  obtain ⟨r4, m4, h⟩ := h.bnd
  refine S.sil 9 rfl rfl (fun _ hF => .callQ ent136 cF (.c (lk 1 rfl rfl) (V.sub.refl _) (.c (lk 0 rfl rfl) (V.sub.refl _) .nil)) (C_slices_IndexFunc_Hold_place_1 m4)) ?_
  refine S.sil 6 rfl rfl (fun _ hF => .assign (lk 0 rfl rfl)) ?_
  refine S.nil ?_
  refine thenQ_n ?_
  refine AWp.ret ?_
  obtain rfl := h.ret
  exact endF1 rfl (Wk.selS [] .nil rfl (SelE.leaf (lk 0 rfl rfl) rfl (.refl _) (fun m => ((TyOk.int .i64).lt _ _)) .nil) .nil) (.tmp (lk 0 rfl rfl) rfl) rfl rfl
theorem C_hold_End {a1 : List THold} {a2 : Int} {a3 : Int} {a4 : Int} {r : (List THold) × Int × Int} (h : hold_End a1 a2 a3 a4 = some r) : PureC Pg 110 [.sl 5 .no (List.map E_THold a1), (V.int .i64) a2, (V.int .i64) a3, (V.int .i64) a4] (.tup [E_S_THold r.1, (V.int .i64) r.2.1, (V.int .i64) r.2.2]) := by
  refine PureC.ofF (CallSpec.of_bodyF 52 0 fn110 rfl rfl rfl (Nat.le_of_ble_eq_true rfl) ?_) (ltL_c (lt_sl rfl (ty_THold.ltm _ _)) (ltL_c ((TyOk.int .i64).lt _ _) (ltL_c ((TyOk.int .i64).lt _ _) (ltL_c ((TyOk.int .i64).lt _ _) ltL_nil)))) (lt_tup (ltL_c (ty_S_THold.lt _ _) (ltL_c ((TyOk.int .i64).lt _ _) (ltL_c ((TyOk.int .i64).lt _ _) ltL_nil))))
  replace h := Ok.of h
  unfold hold_End at h
  refine AWp.seq ?_
  refine W.reg [0, 1, 2] rfl ?_
  refine S.sil 8 rfl rfl (fun _ hF => .assign cNs) ?_
  refine S.sil 9 rfl rfl (fun _ hF => .assign cI) ?_
  refine S.sil 10 rfl rfl (fun _ hF => .assign cI) ?_
  refine S.nil ?_
  refine thenQ_n ?_
  refine AWp.seq ?_
  refine W.reg [0, 1, 2, 3, 4] rfl ?_
  refine S.sil 13 rfl rfl (fun _ hF => .move (lk 3 rfl rfl)) ?_
  refine S.sil 14 rfl rfl (fun _ hF => .move (lk 5 rfl rfl)) ?_
  refine S.sil 15 rfl rfl (fun _ hF => .move (lk 7 rfl rfl)) ?_
  obtain ⟨r5, m5, h⟩ := h.bnd
  refine S.sil 16 rfl rfl (fun _ hF => .callQ ent151 cF (.c (lk 2 rfl rfl) (V.sub.refl _) (.c (lk 1 rfl rfl) (V.sub.refl _) (.c (lk 0 rfl rfl) (V.sub.refl _) .nil))) (C_hold_place m5)) ?_
  refine S.sil 11 rfl rfl (fun _ hF => .assign (lk 0 rfl rfl)) ?_
  refine S.nil ?_
  refine thenQ_n ?_
  refine AWp.seq ?_
  refine AWp.block ?_
  refine AWp.seq ?_
  refine W.reg [0, 1, 2, 3, 4, 5, 6, 7, 8, 9, 10, 11] rfl ?_
  refine S.sil 18 rfl rfl (fun _ hF => .move (lk 8 rfl rfl)) ?_
  obtain ⟨r6, m6, h⟩ := h.bnd
  refine S.sil 19 rfl rfl (fun _ hF => .callQ ent76 cF (.c (lk 0 rfl rfl) (V.sub.refl _) .nil) (C_hold_Rights m6)) ?_
  refine S.sil 20 rfl rfl (fun _ hF => .not (lk 0 rfl rfl)) ?_
  refine S.sil 21 rfl rfl (fun _ hF => .move (lk 0 rfl rfl)) ?_
  refine S.gsil 22 3 21 false rfl rfl rfl (lk 0 rfl rfl) (fun hB _ hF => .move (lk 15 rfl rfl)) ?_
  refine S.gsil 23 3 21 false rfl rfl rfl (lk 1 rfl rfl) (fun hB _ hF => .neq (ifT hB (lk 0 rfl rfl)) cI) ?_
  refine S.gsil 24 3 21 false rfl rfl rfl (lk 2 rfl rfl) (fun hB _ hF => .move (ifT hB (lk 0 rfl rfl))) ?_
  refine S.gsil2 25 6 24 true rfl rfl rfl (lk 0 rfl rfl) (fun hB _ hF => .move (lk 18 rfl rfl)) ?_
  refine S.gsil2 26 6 24 true rfl rfl rfl (lk 1 rfl rfl) (fun hB _ hF => .neq (ifT hB (lk 0 rfl rfl)) cI) ?_
  refine S.gsil 27 3 21 false rfl rfl rfl (lk 5 rfl rfl) (fun hB _ hF => .pickAnd (ifT hB (lk 2 rfl rfl)) (fun h => ifT ⟨hB, h⟩ (lk 0 rfl rfl)) cB) ?_
  refine S.sil 28 rfl rfl (fun _ hF => .pickOr (lk 6 rfl rfl) cB (fun h => ifT h (lk 0 rfl rfl))) ?_
  obtain ⟨v7, ev7, h⟩ := h.nam
  refine S.sil 17 rfl rfl (fun _ hF => .nv (.assign (lk 0 rfl rfl)) (congrArg V.bool ev7.symm)) ?_
  refine S.nil ?_
  refine thenQ_n ?_
  refine AWp.prune (.eq (lk 0 rfl rfl) rfl (.eq (lk 12 rfl rfl) rfl (.eq (lk 17 rfl rfl) rfl (.eq (lk 18 rfl rfl) rfl (.eq (lk 19 rfl rfl) rfl (.eq (lk 20 rfl rfl) rfl (.eq (lk 23 rfl rfl) rfl .nil))))))) ?_
  refine AWp.condM (lk 0 rfl rfl) h (fun c1 h => ?_) (fun c1 h => ?_)
  · skip
    refine AWp.seq ?_
    refine W.reg [0, 1, 2] rfl ?_
    refine S.sil 8 rfl rfl (fun _ hF => .assign cNs) ?_
    refine S.sil 9 rfl rfl (fun _ hF => .assign cI) ?_
    refine S.sil 10 rfl rfl (fun _ hF => .assign cI) ?_
    refine S.nil ?_
    refine thenQ_n ?_
    refine AWp.ret ?_
    refine blockQ_r ?_
    refine thenQ_r ?_
    obtain rfl := h.ret
    exact endFN rfl (Wk.selS [] .nil rfl (SelE.leaf (lk 2 rfl rfl) rfl (.nils_no _) (fun m => (ty_S_THold.lt ([] : List THold) _)) (SelE.leaf (lk 1 rfl rfl) rfl (.refl _) (fun m => ((TyOk.int .i64).lt _ _)) (SelE.leaf (lk 0 rfl rfl) rfl (.refl _) (fun m => ((TyOk.int .i64).lt _ _)) .nil))) .nil) (.cons (.tmp (lk 0 rfl rfl) rfl) (.cons (.tmp (lk 1 rfl rfl) rfl) (.cons (.tmp (lk 2 rfl rfl) rfl) .nil))) rfl rfl rfl
  · skip
    refine AWp.seq ?_
    refine W.reg [0, 1, 2] rfl ?_
    refine S.sil 30 rfl rfl (fun _ hF => .move (lk 1 rfl rfl)) ?_
    refine S.sil 31 rfl rfl (fun _ hF => .lss (lk 0 rfl rfl) cI) ?_
    refine S.sil 29 rfl rfl (fun _ hF => .assign (lk 0 rfl rfl)) ?_
    refine S.nil ?_
    refine thenQ_n ?_
    refine AWp.condM (lk 0 rfl rfl) h (fun c2 h => ?_) (fun c2 h => ?_)
    · skip
      refine AWp.seq ?_
      refine W.reg [0, 1, 2] rfl ?_
      refine S.sil 8 rfl rfl (fun _ hF => .assign cNs) ?_
      refine S.sil 9 rfl rfl (fun _ hF => .assign cI) ?_
      refine S.sil 10 rfl rfl (fun _ hF => .assign cI) ?_
      refine S.nil ?_
      refine thenQ_n ?_
      refine AWp.ret ?_
      refine blockQ_r ?_
      refine thenQ_r ?_
      obtain rfl := h.ret
      exact endFN rfl (Wk.selS [] .nil rfl (SelE.leaf (lk 2 rfl rfl) rfl (.nils_no _) (fun m => (ty_S_THold.lt ([] : List THold) _)) (SelE.leaf (lk 1 rfl rfl) rfl (.refl _) (fun m => ((TyOk.int .i64).lt _ _)) (SelE.leaf (lk 0 rfl rfl) rfl (.refl _) (fun m => ((TyOk.int .i64).lt _ _)) .nil))) .nil) (.cons (.tmp (lk 0 rfl rfl) rfl) (.cons (.tmp (lk 1 rfl rfl) rfl) (.cons (.tmp (lk 2 rfl rfl) rfl) .nil))) rfl rfl rfl
    · skip
      refine AWp.seq ?_
      refine W.reg [0, 1, 2, 3, 4, 5, 6] rfl ?_
      refine S.sil 33 rfl rfl (fun _ hF => .move (lk 8 rfl rfl)) ?_
      refine S.sil 34 rfl rfl (fun _ hF => .move (lk 5 rfl rfl)) ?_
      obtain ⟨j8, m8, h⟩ := h.bnd
      refine S.sil 35 rfl rfl (fun _ hF => .ixS sli31 (lk 1 rfl rfl) (lk 0 rfl rfl) m8) ?_
      refine S.sil 36 rfl rfl (fun _ hF => .fieldAddrC lay66 rfl rfl (lk 0 rfl rfl) rfl (flL_c (show flen _ = 1 from rfl) (flL_c (show flen _ = 1 from rfl) (flL_c (show flen _ = 1 from rfl) (flL_c (show flen _ = 1 from rfl) flL_nil))))) ?_
      refine S.sil 37 rfl rfl (fun _ hF => .loadC sz3 ag3 (lk 0 rfl rfl) rfl rfl) ?_
      refine S.sil 38 rfl rfl (fun _ hF => .neq (lk 0 rfl rfl) cI) ?_
      obtain ⟨v9, ev9, h⟩ := h.nam
      refine S.sil 32 rfl rfl (fun _ hF => .nv (.assign (lk 0 rfl rfl)) (congrArg V.bool ev9.symm)) ?_
      refine S.nil ?_
      refine thenQ_n ?_
      refine AWp.prune (.eq (lk 0 rfl rfl) rfl (.eq (lk 11 rfl rfl) rfl (.eq (lk 12 rfl rfl) rfl (.eq (lk 13 rfl rfl) rfl (.eq (lk 14 rfl rfl) rfl (.eq (lk 15 rfl rfl) rfl (.eq (lk 16 rfl rfl) rfl .nil))))))) ?_
      refine AWp.condM (lk 0 rfl rfl) h (fun c3 h => ?_) (fun c3 h => ?_)
      · skip
        refine AWp.seq ?_
        refine W.reg [0, 1, 2] rfl ?_
        refine S.sil 8 rfl rfl (fun _ hF => .assign cNs) ?_
        refine S.sil 9 rfl rfl (fun _ hF => .assign cI) ?_
        refine S.sil 10 rfl rfl (fun _ hF => .assign cI) ?_
        refine S.nil ?_
        refine thenQ_n ?_
        refine AWp.ret ?_
        refine blockQ_r ?_
        refine thenQ_r ?_
        obtain rfl := h.ret
        exact endFN rfl (Wk.selS [] .nil rfl (SelE.leaf (lk 2 rfl rfl) rfl (.nils_no _) (fun m => (ty_S_THold.lt ([] : List THold) _)) (SelE.leaf (lk 1 rfl rfl) rfl (.refl _) (fun m => ((TyOk.int .i64).lt _ _)) (SelE.leaf (lk 0 rfl rfl) rfl (.refl _) (fun m => ((TyOk.int .i64).lt _ _)) .nil))) .nil) (.cons (.tmp (lk 0 rfl rfl) rfl) (.cons (.tmp (lk 1 rfl rfl) rfl) (.cons (.tmp (lk 2 rfl rfl) rfl) .nil))) rfl rfl rfl
      · skip
        refine AWp.skip ?_
        refine blockQ_n ?_
        refine thenQ_n ?_
        refine AWp.seq ?_
        refine W.reg [0, 1, 2] rfl ?_
        refine S.sil 39 rfl rfl (fun _ hF => .move (lk 5 rfl rfl)) ?_
        obtain ⟨l10, m10, h⟩ := h.bnd
        refine S.eff 40 rfl rfl (.nf (v2 := .slo 5 0 [] 0 0 l10.length 1) (H2 := [.buf 5 (List.map E_THold l10)]) (.callN ent38 cF [] (C_cloneO_38 m10) .nil .nil (ltL_c (ty_S_THold.lt _ _) ltL_nil) (.c (lk 0 rfl rfl) (vsubr (V.sub.refl _) (ty_S_THold.lt _ 0)) .nil) rfl (mapc (ren_buf ty_THold _) rfl) rfl) rfl rfl) trivial ?_
        refine S.sil 12 rfl rfl (fun _ hF => .assign (lk 0 rfl rfl)) ?_
        refine S.nil ?_
        refine thenQ_n ?_
        refine AWp.seq ?_
        refine W.reg [0, 1, 2, 3, 4, 5] rfl ?_
        refine S.sil 41 rfl rfl (fun _ hF => .move (lk 0 rfl rfl)) ?_
        refine S.sil 42 rfl rfl (fun _ hF => .move (lk 5 rfl rfl)) ?_
        refine S.sil 43 rfl rfl (fun _ hF => .move (lk 11 rfl rfl)) ?_
        obtain ⟨j11, m11, h⟩ := h.bnd
        refine S.sil 44 rfl rfl (fun _ hF => .ixO sli31 (lk 2 rfl rfl) (lk 1 rfl rfl) (by first | rfl | simp) m11) ?_
        refine S.sil 45 rfl rfl (fun _ hF => .fieldAddr lay66 rfl rfl (lk 0 rfl rfl)) ?_
        obtain ⟨v12, ev12, h⟩ := h.nam
        refine S.effN rfl rfl (.nf (H2 := [.buf 5 (List.map E_THold v12)]) (.storeB sz3 (lk 0 rfl rfl) (lk 2 rfl rfl) rfl (.refl _) rfl (.ls (by have := six_lt m11; simp at this ⊢; omega) (.st rfl (flL_c (show flen _ = 1 from rfl) (flL_c (show flen _ = 1 from rfl) (flL_c (show flen _ = 1 from rfl) (flL_c (show flen _ = 1 from rfl) flL_nil)))) .nil)) (by first | rfl | omega) (.ls ({ (l10.getD j11 default) with State := a4 }) (by have := six_lt m11; simp at this ⊢; omega) (.st rfl .nil rfl)) rfl rfl (congrArg (fun z => ([AObj.buf 5 (List.map E_THold z)] : List AObj)) ev12.symm)) rfl rfl) trivial ?_
        refine S.nil ?_
        refine thenQ_n ?_
        refine AWp.prune (.eq (lk 5 rfl rfl) rfl (.eq (lk 9 rfl rfl) rfl (.eq (lk 10 rfl rfl) rfl (.eq (lk 11 rfl rfl) rfl (.eq (lk 12 rfl rfl) rfl .nil))))) ?_
        refine AWp.seq ?_
        refine W.regD [0, 1, 2, 3, 4, 5, 6, 7, 8] mixed ?_
        refine S.sil 46 rfl rfl (fun _ hF => .move (lk 0 rfl rfl)) ?_
        refine S.sil 47 rfl rfl (fun _ hF => .move (lk 1 rfl rfl)) ?_
        refine S.sil 48 rfl rfl (fun _ hF => .move (lk 3 rfl rfl)) ?_
        obtain ⟨j13, m13, h⟩ := h.bnd
        refine S.sil 49 rfl rfl (fun _ hF => .ixO sli31 (lk 1 rfl rfl) (lk 0 rfl rfl) (by first | rfl | simp [ev12]) m13) ?_
        refine S.sil 50 rfl rfl (fun _ hF => .fieldAddr lay66 rfl rfl (lk 0 rfl rfl)) ?_
        refine S.qui 51 rfl rfl (fun _ => .loadB sz3 ag3 (lk 0 rfl rfl) rfl (.ls (by have := six_lt m13; simp at this ⊢; omega) (.st rfl (flL_c (show flen _ = 1 from rfl) (flL_c (show flen _ = 1 from rfl) flL_nil)) .nil)) (by first | rfl | omega) rfl rfl) ?_
        refine S.sil 8 rfl rfl (fun _ hF => .assign (lk 5 rfl rfl)) ?_
        obtain ⟨v14, ev14, h⟩ := h.nam
        refine S.sil 9 rfl rfl (fun _ hF => .nv (.assign (lk 1 rfl rfl)) (congrArg (V.int .i64) ev14.symm)) ?_
        refine S.sil 10 rfl rfl (fun _ hF => .assign cI) ?_
        refine S.nilD (by kernel_rfl) ?_
        refine thenQ_n ?_
        refine AWp.prune (.eq (lk 0 rfl rfl) rfl (.eq (lk 1 rfl rfl) rfl (.eq (lk 2 rfl rfl) rfl .nil))) ?_
        refine AWp.ret ?_
        refine endF_wk (Wk.freeze 0 rfl rfl (.same (lk 0 rfl rfl) (.same (lk 1 rfl rfl) (.cons (lk 2 rfl rfl) rfl (.slo (by first | rfl | simp [ev12])) .nil))) (.refl _)) ?_
        obtain rfl := h.ret
        exact endFN rfl (Wk.selS [] .nil rfl (SelE.leaf (lk 2 rfl rfl) rfl (.refl _) (fun m => (ty_S_THold.lt _ _)) (SelE.leaf (lk 1 rfl rfl) rfl (.refl _) (fun m => ((TyOk.int .i64).lt _ _)) (SelE.leaf (lk 0 rfl rfl) rfl (.refl _) (fun m => ((TyOk.int .i64).lt _ _)) .nil))) .nil) (.cons (.tmp (lk 0 rfl rfl) rfl) (.cons (.tmp (lk 1 rfl rfl) rfl) (.cons (.tmp (lk 2 rfl rfl) rfl) .nil))) rfl rfl rfl
theorem C_field_End {a1 : TField} {a2 : Int} {a3 : Int} {a4 : Int} {r : TField × Int} (h : field_End a1 a2 a3 a4 = some r) : PureC Pg 60 [E_TField a1, (V.int .i64) a2, (V.int .i64) a3, (V.int .i64) a4] (.tup [E_TField r.1, (V.int .i64) r.2]) := by
  refine PureC.ofF (CallSpec.of_bodyF 49 0 fn60 rfl rfl rfl (Nat.le_of_ble_eq_true rfl) ?_) (ltL_c (ty_TField.lt _ _) (ltL_c ((TyOk.int .i64).lt _ _) (ltL_c ((TyOk.int .i64).lt _ _) (ltL_c ((TyOk.int .i64).lt _ _) ltL_nil)))) (lt_tup (ltL_c (ty_TField.lt _ _) (ltL_c ((TyOk.int .i64).lt _ _) ltL_nil)))
  replace h := Ok.of h
  unfold field_End at h
  refine AWp.seq ?_
  refine W.reg [0, 1, 2] rfl ?_
  refine S.eff 4 rfl rfl (.nf (v2 := .ptr 0 [] 0) (H2 := [.cells (E_TField a1)]) (.box (lk 0 rfl rfl) rfl) rfl rfl) trivial ?_
  refine S.eff 8 rfl rfl (.nf (v2 := .ptr 1 [] 0) (H2 := [.cells (E_TField a1), .cells (.st [V.str (default : ByteArray), (V.int .i64) 0, (V.int .i64) 0, E_TCounter (default : TCounter), E_TLock (default : TLock), .nils])]) (.alloc zv33) rfl rfl) trivial ?_
  refine S.sil 9 rfl rfl (fun _ hF => .assign cI) ?_
  refine S.nil ?_
  refine thenQ_n ?_
  refine AWp.seq ?_
  refine AWp.seq ?_
  refine W.reg [0, 1, 2] rfl ?_
  refine S.sil 13 rfl rfl (fun _ hF => .fieldAddr lay33 rfl rfl (lk 2 rfl rfl)) ?_
  refine S.qui 14 rfl rfl (fun _ => .loadP sz3 ag3 (lk 0 rfl rfl) rfl (.st rfl (flL_c (show flen _ = 1 from rfl) flL_nil) .nil) (by first | rfl | omega) rfl rfl) ?_
  refine S.sil 15 rfl rfl (fun _ hF => .neq (lk 0 rfl rfl) cI) ?_
  refine S.nil ?_
  refine thenQ_n ?_
  refine AWp.condM (lk 0 rfl rfl) h (fun c1 h => ?_) (fun c1 h => ?_)
  · skip
    refine AWp.seq ?_
    refine W.reg [0, 1, 2] rfl ?_
    obtain ⟨v5, ev5, h⟩ := h.nam
    refine S.sil 16 rfl rfl (fun _ hF => .nv (.vs (v := .st [V.str (default : ByteArray), (V.int .i64) 0, (V.int .i64) 0, E_TCounter (default : TCounter), E_TLock (default : TLock), .nils]) (v2 := E_TField (⟨(default : ByteArray), 0, 0, (default : TCounter), (default : TLock), ([] : List THold)⟩ : TField)) (.buildStW lay33 zv33 rfl .nil) rfl (.st (.cons (.refl _) (.cons (.refl _) (.cons (.refl _) (.cons (.refl _) (.cons (.refl _) (.cons (.nils_no _) .nil)))))))) (congrArg E_TField ev5.symm)) ?_
    refine S.effN rfl rfl (.nf (H2 := [.cells (E_TField a1), .cells (E_TField v5)]) (.storeP sz33 (lk 5 rfl rfl) (lk 0 rfl rfl) rfl (.refl _) rfl .nil (by first | rfl | omega) .nil (ty_TField.fl v5) (fl_st (flL_c (show flen _ = 1 from rfl) (flL_c (show flen _ = 1 from rfl) (flL_c (show flen _ = 1 from rfl) (flL_c (ty_TCounter.fl (default : TCounter)) (flL_c (ty_TLock.fl (default : TLock)) (flL_c (show flen _ = 1 from rfl) flL_nil))))))) rfl) rfl rfl) trivial ?_
    refine S.sil 9 rfl rfl (fun _ hF => .assign cI) ?_
    refine S.nil ?_
    refine thenQ_n ?_
    refine AWp.ret ?_
    refine thenQ_r ?_
    refine endF_wk (Wk.freeze 1 rfl rfl (.same (lk 0 rfl rfl) (.same (lk 0 rfl rfl) (.cons (lk 6 rfl rfl) rfl (.ptr .nil (by first | rfl | omega)) .nil))) (.refl _)) ?_
    obtain rfl := h.ret
    exact endFN rfl (Wk.selS [] .nil rfl (SelE.leaf (lk 2 rfl rfl) rfl (.refl _) (fun m => (lt_cptr (ty_TField.lt _ _))) (SelE.leaf (lk 0 rfl rfl) rfl (.refl _) (fun m => ((TyOk.int .i64).lt _ _)) .nil)) .nil) (.cons (.cellC sz33 ag33 (lk 0 rfl rfl) (ty_TField.fl _) rfl) (.cons (.tmp (lk 1 rfl rfl) rfl) .nil)) rfl rfl rfl
  · skip
    refine AWp.skip ?_
    refine thenQ_n ?_
    refine AWp.seq ?_
    refine W.reg [0, 1, 2, 3, 4, 5, 6, 7, 8, 9, 10, 11, 12] rfl ?_
    refine S.sil 18 rfl rfl (fun _ hF => .fieldAddr lay33 rfl rfl (lk 5 rfl rfl)) ?_
    refine S.qui 19 rfl rfl (fun _ => .loadP sz31 ag31 (lk 0 rfl rfl) rfl (.st rfl (flL_c (show flen _ = 1 from rfl) (flL_c (show flen _ = 1 from rfl) (flL_c (show flen _ = 1 from rfl) (flL_c (ty_TCounter.fl a1.Counter) (flL_c (ty_TLock.fl a1.Lock) flL_nil))))) .nil) (by first | rfl | omega) rfl rfl) ?_
    refine S.sil 20 rfl rfl (fun _ hF => .move (lk 9 rfl rfl)) ?_
    refine S.sil 21 rfl rfl (fun _ hF => .move (lk 11 rfl rfl)) ?_
    refine S.sil 22 rfl rfl (fun _ hF => .move (lk 13 rfl rfl)) ?_
    obtain ⟨r6, m6, h⟩ := h.bnd
    refine S.sil 23 rfl rfl (fun _ hF => .callQ ent110 cF (.c (lk 3 rfl rfl) (V.sub.refl _) (.c (lk 2 rfl rfl) (V.sub.refl _) (.c (lk 1 rfl rfl) (V.sub.refl _) (.c (lk 0 rfl rfl) (V.sub.refl _) .nil)))) (C_hold_End m6)) ?_
    refine S.sil 17 rfl rfl (fun _ hF => .move (lk 0 rfl rfl)) ?_
    refine S.sil 24 rfl rfl (fun _ hF => .extract (lk 0 rfl rfl) rfl) ?_
    refine S.sil 25 rfl rfl (fun _ hF => .extract (lk 1 rfl rfl) rfl) ?_
    refine S.sil 26 rfl rfl (fun _ hF => .extract (lk 2 rfl rfl) rfl) ?_
    refine S.sil 10 rfl rfl (fun _ hF => .assign (lk 2 rfl rfl)) ?_
    refine S.sil 11 rfl rfl (fun _ hF => .assign (lk 2 rfl rfl)) ?_
    refine S.sil 12 rfl rfl (fun _ hF => .assign (lk 2 rfl rfl)) ?_
    refine S.nil ?_
    refine thenQ_n ?_
    refine AWp.prune (.eq (lk 0 rfl rfl) rfl (.eq (lk 1 rfl rfl) rfl (.eq (lk 2 rfl rfl) rfl (.eq (lk 16 rfl rfl) rfl (.eq (lk 17 rfl rfl) rfl (.eq (lk 18 rfl rfl) rfl (.eq (lk 20 rfl rfl) rfl (.eq (lk 22 rfl rfl) rfl .nil)))))))) ?_
    refine AWp.seq ?_
    refine AWp.seq ?_
    refine W.reg [0, 1, 2, 3, 4, 5] rfl ?_
    refine S.sil 27 rfl rfl (fun _ hF => .move (lk 0 rfl rfl)) ?_
    refine S.sil 28 rfl rfl (fun _ hF => .eql (lk 0 rfl rfl) cI) ?_
    refine S.sil 29 rfl rfl (fun _ hF => .move (lk 0 rfl rfl)) ?_
    refine S.gsil 30 2 29 true rfl rfl rfl (lk 0 rfl rfl) (fun hB _ hF => .move (lk 10 rfl rfl)) ?_
    refine S.gsil 31 2 29 true rfl rfl rfl (lk 1 rfl rfl) (fun hB _ hF => .eql (ifT hB (lk 0 rfl rfl)) cI) ?_
    refine S.sil 32 rfl rfl (fun _ hF => .pickAnd (lk 2 rfl rfl) (fun h => ifT h (lk 0 rfl rfl)) cB) ?_
    refine S.nil ?_
    refine thenQ_n ?_
    refine AWp.condM (lk 0 rfl rfl) h (fun c2 h => ?_) (fun c2 h => ?_)
    · skip
      refine W.reg [0, 1, 2, 3, 4, 5, 6, 7, 8, 9, 10] rfl ?_
      refine S.sil 34 rfl rfl (fun _ hF => .fieldAddr lay33 rfl rfl (lk 11 rfl rfl)) ?_
      refine S.qui 35 rfl rfl (fun _ => .loadP sz28 ag28 (lk 0 rfl rfl) rfl (.st rfl (flL_c (show flen _ = 1 from rfl) (flL_c (show flen _ = 1 from rfl) (flL_c (show flen _ = 1 from rfl) flL_nil))) .nil) (by first | rfl | omega) (ty_TCounter.fl a1.Counter) rfl) ?_
      refine S.sil 36 rfl rfl (fun _ hF => .move (lk 14 rfl rfl)) ?_
      refine S.sil 37 rfl rfl (fun _ hF => .move (lk 10 rfl rfl)) ?_
      obtain ⟨r7, m7, h⟩ := h.bnd
      refine S.sil 38 rfl rfl (fun _ hF => .callQ ent66 cF (.c (lk 2 rfl rfl) (V.sub.refl _) (.c (lk 1 rfl rfl) (V.sub.refl _) (.c (lk 0 rfl rfl) (V.sub.refl _) .nil))) (C_counter_Dec m7)) ?_
      refine S.sil 33 rfl rfl (fun _ hF => .move (lk 0 rfl rfl)) ?_
      refine S.sil 39 rfl rfl (fun _ hF => .extract (lk 0 rfl rfl) rfl) ?_
      refine S.sil 40 rfl rfl (fun _ hF => .extract (lk 1 rfl rfl) rfl) ?_
      refine S.sil 41 rfl rfl (fun _ hF => .fieldAddr lay33 rfl rfl (lk 19 rfl rfl)) ?_
      obtain ⟨v8, ev8, h⟩ := h.nam
      refine S.effN rfl rfl (.nf (H2 := [.cells (E_TField v8), .cells (.st [V.str (default : ByteArray), (V.int .i64) 0, (V.int .i64) 0, E_TCounter (default : TCounter), E_TLock (default : TLock), .nils])]) (.storeP sz28 (lk 0 rfl rfl) (lk 2 rfl rfl) rfl (.refl _) rfl (.st rfl (flL_c (show flen _ = 1 from rfl) (flL_c (show flen _ = 1 from rfl) (flL_c (show flen _ = 1 from rfl) flL_nil))) .nil) (by first | rfl | omega) (.st rfl .nil rfl) (ty_TCounter.fl r7.1) (ty_TCounter.fl a1.Counter) (congrArg (fun z => ([AObj.cells (E_TField z), .cells (.st [V.str (default : ByteArray), (V.int .i64) 0, (V.int .i64) 0, E_TCounter (default : TCounter), E_TLock (default : TLock), .nils])] : List AObj)) ev8.symm)) rfl rfl) trivial ?_
      refine S.sil 12 rfl rfl (fun _ hF => .assign (lk 1 rfl rfl)) ?_
      refine S.nil ?_
      refine thenQ_n ?_
      refine AWp.prune (.eq (lk 0 rfl rfl) rfl (.eq (lk 18 rfl rfl) rfl (.eq (lk 19 rfl rfl) rfl (.eq (lk 20 rfl rfl) rfl (.eq (lk 21 rfl rfl) rfl .nil))))) ?_
      refine AWp.seq ?_
      refine W.reg [0, 1, 2] rfl ?_
      refine S.sil 42 rfl rfl (fun _ hF => .move (lk 1 rfl rfl)) ?_
      refine S.sil 43 rfl rfl (fun _ hF => .fieldAddr lay33 rfl rfl (lk 5 rfl rfl)) ?_
      obtain ⟨v9, ev9, h⟩ := h.nam
      refine S.effN rfl rfl (.nf (H2 := [.cells (E_TField v9), .cells (.st [V.str (default : ByteArray), (V.int .i64) 0, (V.int .i64) 0, E_TCounter (default : TCounter), E_TLock (default : TLock), .nils])]) (.storeP sz31 (lk 0 rfl rfl) (lk 1 rfl rfl) rfl (.refl _) rfl (.st rfl (flL_c (show flen _ = 1 from rfl) (flL_c (show flen _ = 1 from rfl) (flL_c (show flen _ = 1 from rfl) (flL_c (ty_TCounter.fl v8.Counter) (flL_c (ty_TLock.fl v8.Lock) flL_nil))))) .nil) (by first | rfl | omega) (.st rfl .nil rfl) rfl rfl (congrArg (fun z => ([AObj.cells (E_TField z), .cells (.st [V.str (default : ByteArray), (V.int .i64) 0, (V.int .i64) 0, E_TCounter (default : TCounter), E_TLock (default : TLock), .nils])] : List AObj)) ev9.symm)) rfl rfl) trivial ?_
      refine S.nil ?_
      refine thenQ_n ?_
      refine AWp.seq ?_
      refine W.reg [0, 1, 2, 3, 4, 5, 6] rfl ?_
      refine S.qui 44 rfl rfl (fun _ => .loadP sz33 ag33 (lk 6 rfl rfl) rfl .nil (by first | rfl | omega) (ty_TField.fl v9) rfl) ?_
      refine S.sil 45 rfl rfl (fun _ hF => .move (lk 3 rfl rfl)) ?_
      obtain ⟨r10, m10, h⟩ := h.bnd
      refine S.sil 46 rfl rfl (fun _ hF => .callQ ent73 cF (.c (lk 1 rfl rfl) (V.sub.refl _) (.c (lk 0 rfl rfl) (V.sub.refl _) .nil)) (C_field_done m10)) ?_
      refine S.sil 47 rfl rfl (fun _ hF => .extract (lk 0 rfl rfl) rfl) ?_
      refine S.sil 48 rfl rfl (fun _ hF => .extract (lk 1 rfl rfl) rfl) ?_
      refine S.effN rfl rfl (.nf (H2 := [.cells (E_TField v9), .cells (E_TField r10.1)]) (.storeP sz33 (lk 10 rfl rfl) (lk 1 rfl rfl) rfl (.refl _) rfl .nil (by first | rfl | omega) .nil (ty_TField.fl r10.1) (fl_st (flL_c (show flen _ = 1 from rfl) (flL_c (show flen _ = 1 from rfl) (flL_c (show flen _ = 1 from rfl) (flL_c (ty_TCounter.fl (default : TCounter)) (flL_c (ty_TLock.fl (default : TLock)) (flL_c (show flen _ = 1 from rfl) flL_nil))))))) rfl) rfl rfl) trivial ?_
      refine S.sil 9 rfl rfl (fun _ hF => .assign (lk 0 rfl rfl)) ?_
      refine S.nil ?_
      refine thenQ_n ?_
      refine AWp.prune (.eq (lk 0 rfl rfl) rfl (.eq (lk 11 rfl rfl) rfl .nil)) ?_
      refine AWp.ret ?_
      refine endF_wk (Wk.freeze 1 rfl rfl (.same (lk 0 rfl rfl) (.cons (lk 1 rfl rfl) rfl (.ptr .nil (by first | rfl | omega)) .nil)) (.refl _)) ?_
      obtain rfl := h.ret
      exact endFN rfl (Wk.selS [] .nil rfl (SelE.leaf (lk 1 rfl rfl) rfl (.refl _) (fun m => (lt_cptr (ty_TField.lt _ _))) (SelE.leaf (lk 0 rfl rfl) rfl (.refl _) (fun m => ((TyOk.int .i64).lt _ _)) .nil)) .nil) (.cons (.cellC sz33 ag33 (lk 0 rfl rfl) (ty_TField.fl _) rfl) (.cons (.tmp (lk 1 rfl rfl) rfl) .nil)) rfl rfl rfl
    · skip
      refine AWp.skip ?_
      refine thenQ_n ?_
      refine AWp.seq ?_
      refine W.reg [0, 1, 2] rfl ?_
      refine S.sil 42 rfl rfl (fun _ hF => .move (lk 8 rfl rfl)) ?_
      refine S.sil 43 rfl rfl (fun _ hF => .fieldAddr lay33 rfl rfl (lk 12 rfl rfl)) ?_
      obtain ⟨v11, ev11, h⟩ := h.nam
      refine S.effN rfl rfl (.nf (H2 := [.cells (E_TField v11), .cells (.st [V.str (default : ByteArray), (V.int .i64) 0, (V.int .i64) 0, E_TCounter (default : TCounter), E_TLock (default : TLock), .nils])]) (.storeP sz31 (lk 0 rfl rfl) (lk 1 rfl rfl) rfl (.refl _) rfl (.st rfl (flL_c (show flen _ = 1 from rfl) (flL_c (show flen _ = 1 from rfl) (flL_c (show flen _ = 1 from rfl) (flL_c (ty_TCounter.fl a1.Counter) (flL_c (ty_TLock.fl a1.Lock) flL_nil))))) .nil) (by first | rfl | omega) (.st rfl .nil rfl) rfl rfl (congrArg (fun z => ([AObj.cells (E_TField z), .cells (.st [V.str (default : ByteArray), (V.int .i64) 0, (V.int .i64) 0, E_TCounter (default : TCounter), E_TLock (default : TLock), .nils])] : List AObj)) ev11.symm)) rfl rfl) trivial ?_
      refine S.nil ?_
      refine thenQ_n ?_
      refine AWp.prune (.eq (lk 8 rfl rfl) rfl (.eq (lk 11 rfl rfl) rfl (.eq (lk 12 rfl rfl) rfl (.eq (lk 13 rfl rfl) rfl .nil)))) ?_
      refine AWp.seq ?_
      refine W.reg [0, 1, 2, 3, 4, 5, 6] rfl ?_
      refine S.qui 44 rfl rfl (fun _ => .loadP sz33 ag33 (lk 3 rfl rfl) rfl .nil (by first | rfl | omega) (ty_TField.fl v11) rfl) ?_
      refine S.sil 45 rfl rfl (fun _ hF => .move (lk 1 rfl rfl)) ?_
      obtain ⟨r12, m12, h⟩ := h.bnd
      refine S.sil 46 rfl rfl (fun _ hF => .callQ ent73 cF (.c (lk 1 rfl rfl) (V.sub.refl _) (.c (lk 0 rfl rfl) (V.sub.refl _) .nil)) (C_field_done m12)) ?_
      refine S.sil 47 rfl rfl (fun _ hF => .extract (lk 0 rfl rfl) rfl) ?_
      refine S.sil 48 rfl rfl (fun _ hF => .extract (lk 1 rfl rfl) rfl) ?_
      refine S.effN rfl rfl (.nf (H2 := [.cells (E_TField v11), .cells (E_TField r12.1)]) (.storeP sz33 (lk 7 rfl rfl) (lk 1 rfl rfl) rfl (.refl _) rfl .nil (by first | rfl | omega) .nil (ty_TField.fl r12.1) (fl_st (flL_c (show flen _ = 1 from rfl) (flL_c (show flen _ = 1 from rfl) (flL_c (show flen _ = 1 from rfl) (flL_c (ty_TCounter.fl (default : TCounter)) (flL_c (ty_TLock.fl (default : TLock)) (flL_c (show flen _ = 1 from rfl) flL_nil))))))) rfl) rfl rfl) trivial ?_
      refine S.sil 9 rfl rfl (fun _ hF => .assign (lk 0 rfl rfl)) ?_
      refine S.nil ?_
      refine thenQ_n ?_
      refine AWp.ret ?_
      refine endF_wk (Wk.freeze 1 rfl rfl (.same (lk 0 rfl rfl) (.same (lk 0 rfl rfl) (.cons (lk 8 rfl rfl) rfl (.ptr .nil (by first | rfl | omega)) .nil))) (.refl _)) ?_
      obtain rfl := h.ret
      exact endFN rfl (Wk.selS [] .nil rfl (SelE.leaf (lk 2 rfl rfl) rfl (.refl _) (fun m => (lt_cptr (ty_TField.lt _ _))) (SelE.leaf (lk 0 rfl rfl) rfl (.refl _) (fun m => ((TyOk.int .i64).lt _ _)) .nil)) .nil) (.cons (.cellC sz33 ag33 (lk 0 rfl rfl) (ty_TField.fl _) rfl) (.cons (.tmp (lk 1 rfl rfl) rfl) .nil)) rfl rfl rfl
end Go.Av
