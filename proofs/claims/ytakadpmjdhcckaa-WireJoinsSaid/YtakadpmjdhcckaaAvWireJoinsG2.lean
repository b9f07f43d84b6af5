/- Each function tells what its mirror tells. -/
import Derived.Test.YtakadpmjdhcckaaAvWireJoinsG1
import Derived.Test.YtakadpmjdhcckaaProg
import Derived.KernelRfl
namespace Go.Av
set_option linter.unusedSectionVars false
open Go.Proofs
set_option linter.unusedVariables false
set_option linter.unusedSimpArgs false
set_option maxHeartbeats 4000000
set_option maxRecDepth 10000
theorem C_field_lacks {a1 : TField} {a2 : Int} {a3 : Int} {r : Int} (h : field_lacks a1 a2 a3 = some r) : PureC Pg 65 [E_TField a1, (V.int .i64) a2, (V.int .i64) a3] ((V.int .i64) r) := by
  refine PureC.ofF (CallSpec.of_bodyF 23 0 fn65 rfl rfl rfl (Nat.le_of_ble_eq_true rfl) ?_) (ltL_c (ty_TField.lt _ _) (ltL_c ((TyOk.int .i64).lt _ _) (ltL_c ((TyOk.int .i64).lt _ _) ltL_nil))) ((TyOk.int .i64).lt _ _)
  replace h := Ok.of h
  unfold field_lacks at h
  refine AWp.seq ?_
  refine W.reg [0, 1] rfl ?_
  refine S.eff 3 rfl rfl (.nf (v2 := .ptr 0 [] 0) (H2 := [.cells (E_TField a1)]) (.box (lk 0 rfl rfl) rfl) rfl rfl) trivial ?_
  refine S.sil 6 rfl rfl (fun _ hF => .assign cI) ?_
  refine S.nil ?_
  refine thenQ_n ?_
  refine AWp.wk (Wk.freeze 0 rfl rfl (.same (lk 0 rfl rfl) (.cons (lk 1 rfl rfl) rfl (.ptr .nil (by first | rfl | omega)) (.same (lk 3 rfl rfl) (.same (lk 4 rfl rfl) .nil)))) (.refl _)) ?_
  refine AWp.seq ?_
  refine W.reg [0, 1, 2, 3, 4, 5, 6, 7] rfl ?_
  refine S.sil 10 rfl rfl (fun _ hF => .loadC sz33 ag33 (lk 1 rfl rfl) (ty_TField.fl a1) rfl) ?_
  refine S.sil 11 rfl rfl (fun _ hF => .move (lk 3 rfl rfl)) ?_
  obtain ⟨r4, m4, h⟩ := h.bnd
  refine S.sil 12 rfl rfl (fun _ hF => .callQ ent119 cF (.c (lk 1 rfl rfl) (V.sub.refl _) (.c (lk 0 rfl rfl) (V.sub.refl _) .nil)) (C_field_Loose m4)) ?_
  refine S.sil 9 rfl rfl (fun _ hF => .move (lk 0 rfl rfl)) ?_
  refine S.sil 13 rfl rfl (fun _ hF => .extract (lk 0 rfl rfl) rfl) ?_
  refine S.sil 14 rfl rfl (fun _ hF => .extract (lk 1 rfl rfl) rfl) ?_
  refine S.sil 7 rfl rfl (fun _ hF => .assign (lk 1 rfl rfl)) ?_
  refine S.sil 8 rfl rfl (fun _ hF => .assign (lk 1 rfl rfl)) ?_
  refine S.nil ?_
  refine thenQ_n ?_
  refine AWp.seq ?_
  refine AWp.block ?_
  refine AWp.seq ?_
  refine W.reg [0, 1, 2, 3] rfl ?_
  refine S.sil 16 rfl rfl (fun _ hF => .fieldAddrC lay33 rfl rfl (lk 9 rfl rfl) rfl (flL_c (show flen _ = 1 from rfl) flL_nil)) ?_
  refine S.sil 17 rfl rfl (fun _ hF => .loadC sz3 ag3 (lk 0 rfl rfl) rfl rfl) ?_
  refine S.sil 18 rfl rfl (fun _ hF => .neq (lk 0 rfl rfl) cI) ?_
  refine S.sil 15 rfl rfl (fun _ hF => .assign (lk 0 rfl rfl)) ?_
  refine S.nil ?_
  refine thenQ_n ?_
  refine AWp.prune (.eq (lk 0 rfl rfl) rfl (.eq (lk 5 rfl rfl) rfl (.eq (lk 12 rfl rfl) rfl (.eq (lk 15 rfl rfl) rfl .nil)))) ?_
  refine AWp.condM (lk 0 rfl rfl) h (fun c1 h => ?_) (fun c1 h => ?_)
  · skip
    refine AWp.seq ?_
    refine W.reg [0] rfl ?_
    refine S.sil 6 rfl rfl (fun _ hF => .assign cI) ?_
    refine S.nil ?_
    refine thenQ_n ?_
    refine AWp.ret ?_
    refine blockQ_r ?_
    refine thenQ_r ?_
    obtain rfl := h.ret
    exact endF1 rfl (Wk.selS [] .nil rfl (SelE.leaf (lk 0 rfl rfl) rfl (.refl _) (fun m => ((TyOk.int .i64).lt _ _)) .nil) .nil) (.tmp (lk 0 rfl rfl) rfl) rfl rfl
  · skip
    refine AWp.seq ?_
    refine W.reg [0, 1, 2, 3] rfl ?_
    refine S.sil 20 rfl rfl (fun _ hF => .move (lk 3 rfl rfl)) ?_
    refine S.sil 21 rfl rfl (fun _ hF => .move (lk 2 rfl rfl)) ?_
    refine S.sil 22 rfl rfl (fun _ hF => .gtr (lk 1 rfl rfl) (lk 0 rfl rfl)) ?_
    refine S.sil 19 rfl rfl (fun _ hF => .assign (lk 0 rfl rfl)) ?_
    refine S.nil ?_
    refine thenQ_n ?_
    refine AWp.condM (lk 0 rfl rfl) h (fun c2 h => ?_) (fun c2 h => ?_)
    · skip
      refine AWp.seq ?_
      refine W.reg [0] rfl ?_
      refine S.sil 6 rfl rfl (fun _ hF => .assign cI) ?_
      refine S.nil ?_
      refine thenQ_n ?_
      refine AWp.ret ?_
      refine blockQ_r ?_
      refine thenQ_r ?_
      obtain rfl := h.ret
      exact endF1 rfl (Wk.selS [] .nil rfl (SelE.leaf (lk 0 rfl rfl) rfl (.refl _) (fun m => ((TyOk.int .i64).lt _ _)) .nil) .nil) (.tmp (lk 0 rfl rfl) rfl) rfl rfl
    · skip
      refine AWp.skip ?_
      refine blockQ_n ?_
      refine thenQ_n ?_
      refine AWp.seq ?_
      refine W.reg [0] rfl ?_
      refine S.sil 6 rfl rfl (fun _ hF => .assign cI) ?_
      refine S.nil ?_
      refine thenQ_n ?_
      refine AWp.ret ?_
      obtain rfl := h.ret
      exact endF1 rfl (Wk.selS [] .nil rfl (SelE.leaf (lk 0 rfl rfl) rfl (.refl _) (fun m => ((TyOk.int .i64).lt _ _)) .nil) .nil) (.tmp (lk 0 rfl rfl) rfl) rfl rfl
theorem C_hold_count {a1 : Int} {r : Bool} (h : hold_count a1 = some r) : PureC Pg 157 [(V.int .i64) a1] (V.bool r) := by
  refine PureC.ofF (CallSpec.of_bodyF 9 0 fn157 rfl rfl rfl (Nat.le_of_ble_eq_true rfl) ?_) (ltL_c ((TyOk.int .i64).lt _ _) ltL_nil) (TyOk.bool.lt _ _)
  replace h := Ok.of h
  unfold hold_count at h
  refine AWp.seq ?_
  refine W.reg [0] rfl ?_
  refine S.sil 2 rfl rfl (fun _ hF => .assign cB) ?_
  refine S.nil ?_
  refine thenQ_n ?_
  refine AWp.seq ?_
  refine W.reg [0, 1, 2, 3, 4, 5, 6] rfl ?_
  refine S.sil 3 rfl rfl (fun _ hF => .move (lk 1 rfl rfl)) ?_
  refine S.sil 4 rfl rfl (fun _ hF => .geq (lk 0 rfl rfl) cI) ?_
  refine S.sil 5 rfl rfl (fun _ hF => .move (lk 0 rfl rfl)) ?_
  refine S.gsil 6 2 5 true rfl rfl rfl (lk 0 rfl rfl) (fun hB _ hF => .move (lk 4 rfl rfl)) ?_
  obtain ⟨r2, m2, h⟩ := h.bnd
  refine S.gsil 7 2 5 true rfl rfl rfl (lk 1 rfl rfl) (fun hB _ hF => .callQ ent64 cF (.c (ifT hB (lk 0 rfl rfl)) (V.sub.refl _) .nil) (C_num_Is (gd_get m2 hB))) ?_
  refine S.sil 8 rfl rfl (fun _ hF => .pickAnd (lk 2 rfl rfl) (fun h => ifT h (lk 0 rfl rfl)) cB) ?_
  obtain ⟨v3, ev3, h⟩ := h.nam
  refine S.sil 2 rfl rfl (fun _ hF => .nv (.assign (lk 0 rfl rfl)) (congrArg V.bool ev3.symm)) ?_
  refine S.nil ?_
  refine thenQ_n ?_
  refine AWp.ret ?_
  obtain rfl := h.ret
  exact endF1 rfl (Wk.selS [] .nil rfl (SelE.leaf (lk 0 rfl rfl) rfl (.refl _) (fun m => (TyOk.bool.lt _ _)) .nil) .nil) (.tmp (lk 0 rfl rfl) rfl) rfl rfl
theorem C_hold_Right {a1 : THold} {r : Bool} (h : hold_Right a1 = some r) : PureC Pg 124 [E_THold a1] (V.bool r) := by
  refine PureC.ofF (CallSpec.of_bodyF 41 0 fn124 rfl rfl rfl (Nat.le_of_ble_eq_true rfl) ?_) (ltL_c (ty_THold.lt _ _) ltL_nil) (TyOk.bool.lt _ _)
  replace h := Ok.of h
  unfold hold_Right at h
  refine AWp.seq ?_
  refine W.reg [0, 1] rfl ?_
  refine S.eff 1 rfl rfl (.nf (v2 := .ptr 0 [] 0) (H2 := [.cells (E_THold a1)]) (.box (lk 0 rfl rfl) rfl) rfl rfl) trivial ?_
  refine S.sil 2 rfl rfl (fun _ hF => .assign cB) ?_
  refine S.nil ?_
  refine thenQ_n ?_
  refine AWp.wk (Wk.freeze 0 rfl rfl (.same (lk 0 rfl rfl) (.cons (lk 1 rfl rfl) rfl (.ptr .nil (by first | rfl | omega)) .nil)) (.refl _)) ?_
  refine AWp.seq ?_
  refine W.reg [0, 1, 2, 3, 4, 5, 6, 7, 8, 9, 10, 11, 12, 13, 14, 15, 16, 17, 18, 19, 20, 21, 22, 23, 24, 25, 26, 27, 28, 29, 30, 31, 32, 33, 34, 35, 36, 37, 38] rfl ?_
  refine S.sil 3 rfl rfl (fun _ hF => .fieldAddrC lay66 rfl rfl (lk 1 rfl rfl) rfl flL_nil) ?_
  refine S.sil 4 rfl rfl (fun _ hF => .loadC sz3 ag3 (lk 0 rfl rfl) rfl rfl) ?_
  refine S.sil 5 rfl rfl (fun _ hF => .geq (lk 0 rfl rfl) cI) ?_
  refine S.sil 6 rfl rfl (fun _ hF => .move (lk 0 rfl rfl)) ?_
  refine S.gsil 7 3 6 true rfl rfl rfl (lk 0 rfl rfl) (fun hB _ hF => .fieldAddrC lay66 rfl rfl (lk 5 rfl rfl) rfl flL_nil) ?_
  refine S.gsil 8 3 6 true rfl rfl rfl (lk 1 rfl rfl) (fun hB _ hF => .loadC sz3 ag3 (ifT hB (lk 0 rfl rfl)) rfl rfl) ?_
  refine S.gsil 9 3 6 true rfl rfl rfl (lk 2 rfl rfl) (fun hB _ hF => .lss (ifT hB (lk 0 rfl rfl)) cI) ?_
  refine S.sil 10 rfl rfl (fun _ hF => .pickAnd (lk 3 rfl rfl) (fun h => ifT h (lk 0 rfl rfl)) cB) ?_
  refine S.sil 11 rfl rfl (fun _ hF => .move (lk 0 rfl rfl)) ?_
  refine S.gsil 12 8 11 true rfl rfl rfl (lk 0 rfl rfl) (fun hB _ hF => .fieldAddrC lay66 rfl rfl (lk 10 rfl rfl) rfl (flL_c (show flen _ = 1 from rfl) flL_nil)) ?_
  refine S.gsil 13 8 11 true rfl rfl rfl (lk 1 rfl rfl) (fun hB _ hF => .loadC sz3 ag3 (ifT hB (lk 0 rfl rfl)) rfl rfl) ?_
  refine S.gsil 14 8 11 true rfl rfl rfl (lk 2 rfl rfl) (fun hB _ hF => .geq (ifT hB (lk 0 rfl rfl)) cI) ?_
  obtain ⟨v2, ev2, h⟩ := h.nam
  refine S.sil 15 rfl rfl (fun _ hF => .nv (.pickAnd (lk 3 rfl rfl) (fun h => ifT h (lk 0 rfl rfl)) cB) (congrArg V.bool ev2.symm)) ?_
  refine S.sil 16 rfl rfl (fun _ hF => .move (lk 0 rfl rfl)) ?_
  refine S.gsil 17 13 16 true rfl rfl rfl (lk 0 rfl rfl) (fun hB _ hF => .fieldAddrC lay66 rfl rfl (lk 15 rfl rfl) rfl (flL_c (show flen _ = 1 from rfl) flL_nil)) ?_
  refine S.gsil 18 13 16 true rfl rfl rfl (lk 1 rfl rfl) (fun hB _ hF => .loadC sz3 ag3 (ifT hB (lk 0 rfl rfl)) rfl rfl) ?_
  obtain ⟨r3, m3, h⟩ := h.bnd
  refine S.gsil 19 13 16 true rfl rfl rfl (lk 2 rfl rfl) (fun hB _ hF => .callQ ent64 cF (.c (ifT hB (lk 0 rfl rfl)) (V.sub.refl _) .nil) (C_num_Is (gd_get m3 hB))) ?_
  refine S.sil 20 rfl rfl (fun _ hF => .pickAnd (lk 3 rfl rfl) (fun h => ifT h (lk 0 rfl rfl)) cB) ?_
  refine S.sil 21 rfl rfl (fun _ hF => .move (lk 0 rfl rfl)) ?_
  refine S.gsil 22 18 21 true rfl rfl rfl (lk 0 rfl rfl) (fun hB _ hF => .fieldAddrC lay66 rfl rfl (lk 20 rfl rfl) rfl (flL_c (show flen _ = 1 from rfl) (flL_c (show flen _ = 1 from rfl) flL_nil))) ?_
  refine S.gsil 23 18 21 true rfl rfl rfl (lk 1 rfl rfl) (fun hB _ hF => .loadC sz3 ag3 (ifT hB (lk 0 rfl rfl)) rfl rfl) ?_
  obtain ⟨r4, m4, h⟩ := h.bnd
  refine S.gsil 24 18 21 true rfl rfl rfl (lk 2 rfl rfl) (fun hB _ hF => .callQ ent157 cF (.c (ifT hB (lk 0 rfl rfl)) (V.sub.refl _) .nil) (C_hold_count (gd_get m4 hB))) ?_
  refine S.sil 25 rfl rfl (fun _ hF => .pickAnd (lk 3 rfl rfl) (fun h => ifT h (lk 0 rfl rfl)) cB) ?_
  refine S.sil 26 rfl rfl (fun _ hF => .move (lk 0 rfl rfl)) ?_
  refine S.gsil 27 23 26 true rfl rfl rfl (lk 0 rfl rfl) (fun hB _ hF => .fieldAddrC lay66 rfl rfl (lk 25 rfl rfl) rfl (flL_c (show flen _ = 1 from rfl) (flL_c (show flen _ = 1 from rfl) (flL_c (show flen _ = 1 from rfl) flL_nil)))) ?_
  refine S.gsil 28 23 26 true rfl rfl rfl (lk 1 rfl rfl) (fun hB _ hF => .loadC sz3 ag3 (ifT hB (lk 0 rfl rfl)) rfl rfl) ?_
  obtain ⟨r5, m5, h⟩ := h.bnd
  refine S.gsil 29 23 26 true rfl rfl rfl (lk 2 rfl rfl) (fun hB _ hF => .callQ ent157 cF (.c (ifT hB (lk 0 rfl rfl)) (V.sub.refl _) .nil) (C_hold_count (gd_get m5 hB))) ?_
  refine S.sil 30 rfl rfl (fun _ hF => .pickAnd (lk 3 rfl rfl) (fun h => ifT h (lk 0 rfl rfl)) cB) ?_
  refine S.sil 31 rfl rfl (fun _ hF => .move (lk 0 rfl rfl)) ?_
  refine S.gsil 32 28 31 true rfl rfl rfl (lk 0 rfl rfl) (fun hB _ hF => .fieldAddrC lay66 rfl rfl (lk 30 rfl rfl) rfl (flL_c (show flen _ = 1 from rfl) (flL_c (show flen _ = 1 from rfl) (flL_c (show flen _ = 1 from rfl) (flL_c (show flen _ = 1 from rfl) flL_nil))))) ?_
  refine S.gsil 33 28 31 true rfl rfl rfl (lk 1 rfl rfl) (fun hB _ hF => .loadC sz3 ag3 (ifT hB (lk 0 rfl rfl)) rfl rfl) ?_
  refine S.gsil 34 28 31 true rfl rfl rfl (lk 2 rfl rfl) (fun hB _ hF => .geq (ifT hB (lk 0 rfl rfl)) cI) ?_
  refine S.sil 35 rfl rfl (fun _ hF => .pickAnd (lk 3 rfl rfl) (fun h => ifT h (lk 0 rfl rfl)) cB) ?_
  refine S.sil 36 rfl rfl (fun _ hF => .move (lk 0 rfl rfl)) ?_
  refine S.gsil 37 33 36 true rfl rfl rfl (lk 0 rfl rfl) (fun hB _ hF => .fieldAddrC lay66 rfl rfl (lk 35 rfl rfl) rfl (flL_c (show flen _ = 1 from rfl) (flL_c (show flen _ = 1 from rfl) (flL_c (show flen _ = 1 from rfl) (flL_c (show flen _ = 1 from rfl) flL_nil))))) ?_
  refine S.gsil 38 33 36 true rfl rfl rfl (lk 1 rfl rfl) (fun hB _ hF => .loadC sz3 ag3 (ifT hB (lk 0 rfl rfl)) rfl rfl) ?_
  refine S.gsil 39 33 36 true rfl rfl rfl (lk 2 rfl rfl) (fun hB _ hF => .leq (ifT hB (lk 0 rfl rfl)) cI) ?_
  obtain ⟨v6, ev6, h⟩ := h.nam
  refine S.sil 40 rfl rfl (fun _ hF => .nv (.pickAnd (lk 3 rfl rfl) (fun h => ifT h (lk 0 rfl rfl)) cB) (congrArg V.bool ev6.symm)) ?_
  refine S.sil 2 rfl rfl (fun _ hF => .assign (lk 0 rfl rfl)) ?_
  refine S.nil ?_
  refine thenQ_n ?_
  refine AWp.prune (.eq (lk 0 rfl rfl) rfl .nil) ?_
  refine AWp.ret ?_
  obtain rfl := h.ret
  exact endF1 rfl (Wk.selS [] .nil rfl (SelE.leaf (lk 0 rfl rfl) rfl (.refl _) (fun m => (TyOk.bool.lt _ _)) .nil) .nil) (.tmp (lk 0 rfl rfl) rfl) rfl rfl
theorem C_hold_compare {a1 : THold} {a2 : THold} {r : Int} (h : hold_compare a1 a2 = some r) : PureC Pg 108 [E_THold a1, E_THold a2] ((V.int .i64) r) := by
  refine PureC.ofF (CallSpec.of_bodyF 32 0 fn108 rfl rfl rfl (Nat.le_of_ble_eq_true rfl) ?_) (ltL_c (ty_THold.lt _ _) (ltL_c (ty_THold.lt _ _) ltL_nil)) ((TyOk.int .i64).lt _ _)
  replace h := Ok.of h
  unfold hold_compare at h
  refine AWp.seq ?_
  refine W.reg [0, 1, 2] rfl ?_
  refine S.eff 2 rfl rfl (.nf (v2 := .ptr 0 [] 0) (H2 := [.cells (E_THold a1)]) (.box (lk 0 rfl rfl) rfl) rfl rfl) trivial ?_
  refine S.eff 3 rfl rfl (.nf (v2 := .ptr 1 [] 0) (H2 := [.cells (E_THold a1), .cells (E_THold a2)]) (.box (lk 2 rfl rfl) rfl) rfl rfl) trivial ?_
  refine S.sil 4 rfl rfl (fun _ hF => .assign cI) ?_
  refine S.nil ?_
  refine thenQ_n ?_
  refine AWp.wk (Wk.freeze 0 rfl rfl (.same (lk 0 rfl rfl) (.same (lk 1 rfl rfl) (.cons (lk 2 rfl rfl) rfl (.ptr .nil (by first | rfl | omega)) .nil))) (.refl _)) ?_
  refine AWp.wk (Wk.freeze 1 rfl rfl (.same (lk 0 rfl rfl) (.cons (lk 1 rfl rfl) rfl (.ptr .nil (by first | rfl | omega)) (.same (lk 2 rfl rfl) .nil))) (.refl _)) ?_
  refine AWp.seq ?_
  refine AWp.seq ?_
  refine W.reg [0, 1, 2, 3, 4, 5, 6, 7, 8, 9, 10, 11] rfl ?_
  refine S.sil 7 rfl rfl (fun _ hF => .fieldAddrC lay66 rfl rfl (lk 2 rfl rfl) rfl flL_nil) ?_
  refine S.sil 8 rfl rfl (fun _ hF => .loadC sz3 ag3 (lk 0 rfl rfl) rfl rfl) ?_
  refine S.sil 9 rfl rfl (fun _ hF => .fieldAddrC lay66 rfl rfl (lk 3 rfl rfl) rfl flL_nil) ?_
  refine S.sil 10 rfl rfl (fun _ hF => .loadC sz3 ag3 (lk 0 rfl rfl) rfl rfl) ?_
  refine S.sil 11 rfl rfl (fun _ hF => .buildArrL (w := E_A2_i64 (#v[a1.Replica, a2.Replica] : Vector Int 2)) arr135 zv135 (.cons (lk 2 rfl rfl) rfl rfl rfl (.cons (lk 0 rfl rfl) rfl rfl rfl .nil)) rfl rfl) ?_
  refine S.sil 12 rfl rfl (fun _ hF => .fieldAddrC lay66 rfl rfl (lk 7 rfl rfl) rfl (flL_c (show flen _ = 1 from rfl) flL_nil)) ?_
  refine S.sil 13 rfl rfl (fun _ hF => .loadC sz3 ag3 (lk 0 rfl rfl) rfl rfl) ?_
  refine S.sil 14 rfl rfl (fun _ hF => .fieldAddrC lay66 rfl rfl (lk 8 rfl rfl) rfl (flL_c (show flen _ = 1 from rfl) flL_nil)) ?_
  refine S.sil 15 rfl rfl (fun _ hF => .loadC sz3 ag3 (lk 0 rfl rfl) rfl rfl) ?_
  refine S.sil 16 rfl rfl (fun _ hF => .buildArrL (w := E_A2_i64 (#v[a1.Number, a2.Number] : Vector Int 2)) arr135 zv135 (.cons (lk 2 rfl rfl) rfl rfl rfl (.cons (lk 0 rfl rfl) rfl rfl rfl .nil)) rfl rfl) ?_
  refine S.sil 17 rfl rfl (fun _ hF => .buildArrL (w := E_A2_A2_i64 (#v[(#v[a1.Replica, a2.Replica] : Vector Int 2), (#v[a1.Number, a2.Number] : Vector Int 2)] : Vector (Vector Int 2) 2)) arr171 zv171 (.cons (lk 5 rfl rfl) rfl rfl (ty_A2_i64.fl (#v[a1.Replica, a2.Replica] : Vector Int 2)) (.cons (lk 0 rfl rfl) rfl rfl (ty_A2_i64.fl (#v[a1.Number, a2.Number] : Vector Int 2)) .nil)) rfl rfl) ?_
  refine S.sil 18 rfl rfl (fun _ hF => .move cI) ?_
  refine S.nil ?_
  refine thenQ_n ?_
  refine AWp.prune (.eq (lk 0 rfl rfl) rfl (.eq (lk 1 rfl rfl) rfl (.eq (lk 12 rfl rfl) rfl .nil))) ?_
  refine AWp.cutL (fun x5 => ⟨[(4, (V.int .i64) 0)], []⟩) nc_then h (fun q3 hq3 h => ?_) (fun x5 h => ?_)
  · refine AWp.block ?_
    refine AWp.loopT (fun s4 => ⟨[(18, (V.int .i64) s4), (17, E_A2_A2_i64 (#v[(#v[a1.Replica, a2.Replica] : Vector Int 2), (#v[a1.Number, a2.Number] : Vector Int 2)] : Vector (Vector Int 2) 2)), (4, (V.int .i64) 0)], []⟩) hq3 (Wk.selS [] (by decide) rfl (SelE.leaf (lk 0 rfl rfl) rfl (.refl _) (fun m => ((TyOk.int .i64).lt _ _)) (SelE.leaf (lk 1 rfl rfl) rfl (.refl _) (fun m => (ty_A2_A2_i64.lt _ _)) (SelE.leaf (lk 2 rfl rfl) rfl (.refl _) (fun m => ((TyOk.int .i64).lt _ _)) .nil))) .nil) (fun _ s4 h3 => ?_)
    rw [hold_compare_L1] at h3
    refine AWp.seq ?_
    refine W.reg [0] rfl ?_
    refine S.sil 19 rfl rfl (fun _ hF => .lss (lk 0 rfl rfl) cI) ?_
    refine S.nil ?_
    refine thenQ_n ?_
    refine AWp.seq ?_
    refine AWp.condM (lk 0 rfl rfl) h3 (fun c1 h3 => ?_) (fun c1 h3 => ?_)
    · skip
      refine AWp.skip ?_
      refine thenQ_n ?_
      refine AWp.seq ?_
      refine AWp.block ?_
      refine AWp.seq ?_
      refine W.reg [0, 1, 2] rfl ?_
      obtain ⟨k6, m6, h3⟩ := h3.bnd
      refine S.sil 20 rfl rfl (fun _ hF => .ixV arr171 (lk 2 rfl rfl) (lk 1 rfl rfl) m6 rfl) ?_
      refine S.eff 6 rfl rfl (.nf (v2 := .ptr 0 [] 0) (H2 := [.cells (E_A2_i64 (default : Vector Int 2))]) (.alloc zv135) rfl rfl) trivial ?_
      obtain ⟨v7, ev7, h3⟩ := h3.nam
      refine S.effN rfl rfl (.nf (H2 := [.cells (E_A2_i64 v7)]) (.storeP sz135 (lk 0 rfl rfl) (lk 1 rfl rfl) rfl (.refl _) rfl .nil (by first | rfl | omega) .nil (ty_A2_i64.fl ((#v[(#v[a1.Replica, a2.Replica] : Vector Int 2), (#v[a1.Number, a2.Number] : Vector Int 2)] : Vector (Vector Int 2) 2).get k6)) (ty_A2_i64.fl (default : Vector Int 2)) (congrArg (fun z => ([AObj.cells (E_A2_i64 z)] : List AObj)) ev7.symm)) rfl rfl) trivial ?_
      refine S.nil ?_
      refine thenQ_n ?_
      refine AWp.wk (Wk.freeze 0 rfl rfl (.cons (lk 0 rfl rfl) rfl (.ptr .nil (by first | rfl | omega)) (.same (lk 1 rfl rfl) (.same (lk 2 rfl rfl) (.same (lk 3 rfl rfl) (.same (lk 4 rfl rfl) (.same (lk 5 rfl rfl) .nil)))))) (.refl _)) ?_
      refine AWp.seq ?_
      refine W.reg [0, 1, 2, 3, 4] rfl ?_
      obtain ⟨k8, m8, h3⟩ := h3.bnd
      refine S.sil 21 rfl rfl (fun _ hF => .ixC arr135 (lk 0 rfl rfl) cI m8) ?_
      refine S.sil 22 rfl rfl (fun _ hF => .loadC sz3 ag3 (lk 0 rfl rfl) rfl rfl) ?_
      obtain ⟨k9, m9, h3⟩ := h3.bnd
      refine S.sil 23 rfl rfl (fun _ hF => .ixC arr135 (lk 2 rfl rfl) cI m9) ?_
      refine S.sil 24 rfl rfl (fun _ hF => .loadC sz3 ag3 (lk 0 rfl rfl) rfl rfl) ?_
      refine S.sil 25 rfl rfl (fun _ hF => .neq (lk 2 rfl rfl) (lk 0 rfl rfl)) ?_
      refine S.nil ?_
      refine thenQ_n ?_
      refine AWp.condM (lk 0 rfl rfl) h3 (fun c2 h3 => ?_) (fun c2 h3 => ?_)
      · skip
        refine AWp.seq ?_
        refine AWp.seq ?_
        refine W.reg [0, 1, 2, 3, 4] rfl ?_
        obtain ⟨k10, m10, h3⟩ := h3.bnd
        refine S.sil 26 rfl rfl (fun _ hF => .ixC arr135 (lk 5 rfl rfl) cI m10) ?_
        refine S.sil 27 rfl rfl (fun _ hF => .loadC sz3 ag3 (lk 0 rfl rfl) rfl rfl) ?_
        obtain ⟨k11, m11, h3⟩ := h3.bnd
        refine S.sil 28 rfl rfl (fun _ hF => .ixC arr135 (lk 7 rfl rfl) cI m11) ?_
        refine S.sil 29 rfl rfl (fun _ hF => .loadC sz3 ag3 (lk 0 rfl rfl) rfl rfl) ?_
        refine S.sil 30 rfl rfl (fun _ hF => .lss (lk 2 rfl rfl) (lk 0 rfl rfl)) ?_
        refine S.nil ?_
        refine thenQ_n ?_
        refine AWp.condM (lk 0 rfl rfl) h3 (fun c3 h3 => ?_) (fun c3 h3 => ?_)
        · skip
          refine AWp.seq ?_
          refine W.reg [0] rfl ?_
          refine S.sil 4 rfl rfl (fun _ hF => .assign cI) ?_
          refine S.nil ?_
          refine thenQ_n ?_
          refine AWp.ret ?_
          refine thenQ_r ?_
          refine blockQ_r ?_
          refine thenQ_r ?_
          refine thenQ_r ?_
          refine blockQ_r ?_
          refine thenQ_r ?_
          refine thenQ_r ?_
          have h := Ok.inrq h h3.ret
          obtain rfl := h.ret
          exact endF1 rfl (Wk.selS [] .nil rfl (SelE.leaf (lk 0 rfl rfl) rfl (.refl _) (fun m => ((TyOk.int .i64).lt _ _)) .nil) .nil) (.tmp (lk 0 rfl rfl) rfl) rfl rfl
        · skip
          refine AWp.skip ?_
          refine thenQ_n ?_
          refine AWp.seq ?_
          refine W.reg [0] rfl ?_
          refine S.sil 4 rfl rfl (fun _ hF => .assign cI) ?_
          refine S.nil ?_
          refine thenQ_n ?_
          refine AWp.ret ?_
          refine blockQ_r ?_
          refine thenQ_r ?_
          refine thenQ_r ?_
          refine blockQ_r ?_
          refine thenQ_r ?_
          refine thenQ_r ?_
          have h := Ok.inrq h h3.ret
          obtain rfl := h.ret
          exact endF1 rfl (Wk.selS [] .nil rfl (SelE.leaf (lk 0 rfl rfl) rfl (.refl _) (fun m => ((TyOk.int .i64).lt _ _)) .nil) .nil) (.tmp (lk 0 rfl rfl) rfl) rfl rfl
      · skip
        refine AWp.skip ?_
        refine blockQ_n ?_
        refine thenQ_n ?_
        refine W.reg [0, 1] rfl ?_
        refine S.sil 31 rfl rfl (fun _ hF => .add (lk 8 rfl rfl) cI) ?_
        refine S.sil 18 rfl rfl (fun _ hF => .move (lk 0 rfl rfl)) ?_
        refine S.nil ?_
        refine thenQ_n ?_
        exact ⟨_, h3.ret, (Wk.selS [] (by decide) rfl (SelE.leaf (lk 0 rfl rfl) rfl (.refl _) (fun m => ((TyOk.int .i64).lt _ _)) (SelE.leaf (lk 11 rfl rfl) rfl (.refl _) (fun m => (ty_A2_A2_i64.lt _ _)) (SelE.leaf (lk 12 rfl rfl) rfl (.refl _) (fun m => ((TyOk.int .i64).lt _ _)) .nil))) .nil)⟩
    · skip
      refine AWp.exit ?_
      refine thenQ_x ?_
      refine thenQ_x ?_
      refine blockQ_x ?_
      refine thenQ_n ?_
      exact ⟨_, h3.ret, (Wk.selS [] (by decide) rfl (SelE.leaf (lk 3 rfl rfl) rfl (.refl _) (fun m => ((TyOk.int .i64).lt _ _)) .nil) .nil)⟩
  · skip
    refine thenQ_n ?_
    refine AWp.seq ?_
    refine W.reg [0] rfl ?_
    refine S.sil 4 rfl rfl (fun _ hF => .assign cI) ?_
    refine S.nil ?_
    refine thenQ_n ?_
    refine AWp.ret ?_
    obtain rfl := h.ret
    exact endF1 rfl (Wk.selS [] .nil rfl (SelE.leaf (lk 0 rfl rfl) rfl (.refl _) (fun m => ((TyOk.int .i64).lt _ _)) .nil) .nil) (.tmp (lk 0 rfl rfl) rfl) rfl rfl
theorem C_hold_Rights {a1 : List THold} {r : Bool} (h : hold_Rights a1 = some r) : PureC Pg 76 [.sl 5 .no (List.map E_THold a1)] (V.bool r) := by
  refine PureC.ofF (CallSpec.of_bodyF 33 0 fn76 rfl rfl rfl (Nat.le_of_ble_eq_true rfl) ?_) (ltL_c (lt_sl rfl (ty_THold.ltm _ _)) ltL_nil) (TyOk.bool.lt _ _)
  replace h := Ok.of h
  unfold hold_Rights at h
  refine AWp.seq ?_
  refine W.reg [0] rfl ?_
  refine S.sil 2 rfl rfl (fun _ hF => .assign cB) ?_
  refine S.nil ?_
  refine thenQ_n ?_
  refine AWp.seq ?_
  refine AWp.seq ?_
  refine W.reg [0, 1, 2] rfl ?_
  refine S.sil 5 rfl rfl (fun _ hF => .move (lk 1 rfl rfl)) ?_
  refine S.sil 6 rfl rfl (fun _ hF => .lenT sli31 (lk 0 rfl rfl) (vsub rfl (.refl _))) ?_
  refine S.sil 7 rfl rfl (fun _ hF => .move cI) ?_
  refine S.nil ?_
  refine thenQ_n ?_
  refine AWp.cutL (fun x4 => ⟨[(2, V.bool false), (0, .sl 5 .no (List.map E_THold a1))], []⟩) nc_then h (fun q2 hq2 h => ?_) (fun x4 h => ?_)
  · refine AWp.block ?_
    refine AWp.loopT (fun s3 => ⟨[(7, (V.int .i64) s3), (6, (V.int .i64) (a1.length : Int)), (5, .sl 5 .no (List.map E_THold a1)), (2, V.bool false), (0, .sl 5 .no (List.map E_THold a1))], []⟩) hq2 (Wk.selS [] (by decide) rfl (SelE.leaf (lk 0 rfl rfl) rfl (.refl _) (fun m => ((TyOk.int .i64).lt _ _)) (SelE.leaf (lk 1 rfl rfl) rfl (.refl _) (fun m => ((TyOk.int .i64).lt _ _)) (SelE.leaf (lk 2 rfl rfl) rfl (.refl _) (fun m => (lt_sl rfl (ty_THold.ltm _ _))) (SelE.leaf (lk 3 rfl rfl) rfl (.refl _) (fun m => (TyOk.bool.lt _ _)) (SelE.leaf (lk 4 rfl rfl) rfl (.refl _) (fun m => (lt_sl rfl (ty_THold.ltm _ _))) .nil))))) .nil) (fun _ s3 h2 => ?_)
    rw [hold_Rights_L1] at h2
    refine AWp.seq ?_
    refine W.reg [0] rfl ?_
    refine S.sil 8 rfl rfl (fun _ hF => .lss (lk 0 rfl rfl) (lk 1 rfl rfl)) ?_
    refine S.nil ?_
    refine thenQ_n ?_
    refine AWp.seq ?_
    refine AWp.condM (lk 0 rfl rfl) h2 (fun c1 h2 => ?_) (fun c1 h2 => ?_)
    · skip
      refine AWp.skip ?_
      refine thenQ_n ?_
      refine AWp.seq ?_
      refine AWp.block ?_
      refine AWp.seq ?_
      refine W.reg [0, 1, 2, 3, 4, 5] rfl ?_
      refine S.sil 9 rfl rfl (fun _ hF => .move (lk 1 rfl rfl)) ?_
      obtain ⟨j5, m5, h2⟩ := h2.bnd
      refine S.sil 10 rfl rfl (fun _ hF => .ixS sli31 (lk 4 rfl rfl) (lk 2 rfl rfl) m5) ?_
      obtain ⟨v6, ev6, h2⟩ := h2.nam
      refine S.sil 11 rfl rfl (fun _ hF => .nv (.loadC sz66 ag66 (lk 0 rfl rfl) (ty_THold.fl (a1.getD j5 default)) rfl) (congrArg E_THold ev6.symm)) ?_
      refine S.eff 4 rfl rfl (.nf (v2 := .ptr 0 [] 0) (H2 := [.cells (E_THold (default : THold))]) (.alloc zv66) rfl rfl) trivial ?_
      refine S.sil 3 rfl rfl (fun _ hF => .assign (lk 3 rfl rfl)) ?_
      refine S.effN rfl rfl (.nf (H2 := [.cells (E_THold v6)]) (.storeP sz66 (lk 1 rfl rfl) (lk 2 rfl rfl) rfl (.refl _) rfl .nil (by first | rfl | omega) .nil (ty_THold.fl v6) (ty_THold.fl (default : THold)) rfl) rfl rfl) trivial ?_
      refine S.nil ?_
      refine thenQ_n ?_
      refine AWp.wk (Wk.freeze 0 rfl rfl (.same (lk 0 rfl rfl) (.cons (lk 1 rfl rfl) rfl (.ptr .nil (by first | rfl | omega)) (.same (lk 2 rfl rfl) (.same (lk 3 rfl rfl) (.same (lk 4 rfl rfl) (.same (lk 5 rfl rfl) (.same (lk 6 rfl rfl) (.same (lk 7 rfl rfl) (.same (lk 8 rfl rfl) (.same (lk 9 rfl rfl) (.same (lk 10 rfl rfl) .nil))))))))))) (.refl _)) ?_
      refine AWp.seq ?_
      refine W.regD [0, 1, 2, 3, 4, 5, 6, 7, 8, 9, 10, 11, 12, 13, 14, 15, 16] mixed ?_
      refine S.sil 12 rfl rfl (fun _ hF => .loadC sz66 ag66 (lk 1 rfl rfl) (ty_THold.fl v6) rfl) ?_
      obtain ⟨r7, m7, h2⟩ := h2.bnd
      refine S.sil 13 rfl rfl (fun _ hF => .callQ ent124 cF (.c (lk 0 rfl rfl) (V.sub.refl _) .nil) (C_hold_Right m7)) ?_
      refine S.sil 14 rfl rfl (fun _ hF => .not (lk 0 rfl rfl)) ?_
      refine S.sil 15 rfl rfl (fun _ hF => .move (lk 0 rfl rfl)) ?_
      refine S.gsil 16 3 15 false rfl rfl rfl (lk 0 rfl rfl) (fun hB _ hF => .move (lk 4 rfl rfl)) ?_
      refine S.gsil 17 3 15 false rfl rfl rfl (lk 1 rfl rfl) (fun hB _ hF => .gtr (ifT hB (lk 0 rfl rfl)) cI) ?_
      refine S.gsil 18 3 15 false rfl rfl rfl (lk 2 rfl rfl) (fun hB _ hF => .move (ifT hB (lk 0 rfl rfl))) ?_
      refine S.gsil2 19 6 18 true rfl rfl rfl (lk 0 rfl rfl) (fun hB _ hF => .move (lk 17 rfl rfl)) ?_
      refine S.gsil2 20 6 18 true rfl rfl rfl (lk 1 rfl rfl) (fun hB _ hF => .move (lk 8 rfl rfl)) ?_
      refine S.gsil2 21 6 18 true rfl rfl rfl (lk 2 rfl rfl) (fun hB _ hF => .sub (ifT hB (lk 0 rfl rfl)) cI) ?_
      obtain ⟨j8, m8, h2⟩ := h2.bnd
      refine S.gsil2 22 6 18 true rfl rfl rfl (lk 3 rfl rfl) (fun hB _ hF => .ixS sli31 (ifT hB (lk 2 rfl rfl)) (ifT hB (lk 0 rfl rfl)) (gd_get m8 hB)) ?_
      refine S.gsil2 23 6 18 true rfl rfl rfl (lk 4 rfl rfl) (fun hB _ hF => .loadC sz66 ag66 (ifT hB (lk 0 rfl rfl)) (ty_THold.fl (a1.getD j8 default)) rfl) ?_
      refine S.gsil2 24 6 18 true rfl rfl rfl (lk 5 rfl rfl) (fun hB _ hF => .loadC sz66 ag66 (lk 13 rfl rfl) (ty_THold.fl v6) rfl) ?_
      obtain ⟨r9, m9, h2⟩ := h2.bnd
      refine S.gsil2 25 6 18 true rfl rfl rfl (lk 6 rfl rfl) (fun hB _ hF => .callQ ent108 cF (.c (ifT hB (lk 1 rfl rfl)) (V.sub.refl _) (.c (ifT hB (lk 0 rfl rfl)) (V.sub.refl _) .nil)) (C_hold_compare (gd_get m9 hB))) ?_
      refine S.gsil2 26 6 18 true rfl rfl rfl (lk 7 rfl rfl) (fun hB _ hF => .geq (ifT hB (lk 0 rfl rfl)) cI) ?_
      refine S.gsil 27 3 15 false rfl rfl rfl (lk 11 rfl rfl) (fun hB _ hF => .pickAnd (ifT hB (lk 8 rfl rfl)) (fun h => ifT ⟨hB, h⟩ (lk 0 rfl rfl)) cB) ?_
      refine S.sil 28 rfl rfl (fun _ hF => .pickOr (lk 12 rfl rfl) cB (fun h => ifT h (lk 0 rfl rfl))) ?_
      refine S.nilD (by kernel_rfl) ?_
      refine thenQ_n ?_
      refine AWp.prune (.eq (lk 0 rfl rfl) rfl (.eq (lk 13 rfl rfl) rfl (.eq (lk 14 rfl rfl) rfl (.eq (lk 15 rfl rfl) rfl (.eq (lk 16 rfl rfl) rfl (.eq (lk 17 rfl rfl) rfl (.eq (lk 18 rfl rfl) rfl (.eq (lk 19 rfl rfl) rfl (.eq (lk 20 rfl rfl) rfl (.eq (lk 21 rfl rfl) rfl (.eq (lk 22 rfl rfl) rfl (.eq (lk 23 rfl rfl) rfl (.eq (lk 24 rfl rfl) rfl (.eq (lk 25 rfl rfl) rfl (.eq (lk 26 rfl rfl) rfl (.eq (lk 27 rfl rfl) rfl .nil)))))))))))))))) ?_
      refine AWp.condM (lk 0 rfl rfl) h2 (fun c2 h2 => ?_) (fun c2 h2 => ?_)
      · skip
        refine AWp.seq ?_
        refine W.reg [0] rfl ?_
        refine S.sil 2 rfl rfl (fun _ hF => .assign cB) ?_
        refine S.nil ?_
        refine thenQ_n ?_
        refine AWp.ret ?_
        refine blockQ_r ?_
        refine thenQ_r ?_
        refine thenQ_r ?_
        refine blockQ_r ?_
        refine thenQ_r ?_
        refine thenQ_r ?_
        have h := Ok.inrq h h2.ret
        obtain rfl := h.ret
        exact endF1 rfl (Wk.selS [] .nil rfl (SelE.leaf (lk 0 rfl rfl) rfl (.refl _) (fun m => (TyOk.bool.lt _ _)) .nil) .nil) (.tmp (lk 0 rfl rfl) rfl) rfl rfl
      · skip
        refine AWp.skip ?_
        refine blockQ_n ?_
        refine thenQ_n ?_
        refine W.reg [0, 1] rfl ?_
        refine S.sil 29 rfl rfl (fun _ hF => .add (lk 11 rfl rfl) cI) ?_
        refine S.sil 7 rfl rfl (fun _ hF => .move (lk 0 rfl rfl)) ?_
        refine S.nil ?_
        refine thenQ_n ?_
        exact ⟨_, h2.ret, (Wk.selS [] (by decide) rfl (SelE.leaf (lk 0 rfl rfl) rfl (.refl _) (fun m => ((TyOk.int .i64).lt _ _)) (SelE.leaf (lk 14 rfl rfl) rfl (.refl _) (fun m => ((TyOk.int .i64).lt _ _)) (SelE.leaf (lk 15 rfl rfl) rfl (.refl _) (fun m => (lt_sl rfl (ty_THold.ltm _ _))) (SelE.leaf (lk 16 rfl rfl) rfl (.refl _) (fun m => (TyOk.bool.lt _ _)) (SelE.leaf (lk 17 rfl rfl) rfl (.refl _) (fun m => (lt_sl rfl (ty_THold.ltm _ _))) .nil))))) .nil)⟩
    · skip
      refine AWp.exit ?_
      refine thenQ_x ?_
      refine thenQ_x ?_
      refine blockQ_x ?_
      refine thenQ_n ?_
      exact ⟨_, h2.ret, (Wk.selS [] (by decide) rfl (SelE.leaf (lk 4 rfl rfl) rfl (.refl _) (fun m => (TyOk.bool.lt _ _)) (SelE.leaf (lk 5 rfl rfl) rfl (.refl _) (fun m => (lt_sl rfl (ty_THold.ltm _ _))) .nil)) .nil)⟩
  · skip
    refine thenQ_n ?_
    refine AWp.seq ?_
    refine W.reg [0, 1, 2, 3] rfl ?_
    refine S.sil 30 rfl rfl (fun _ hF => .move (lk 1 rfl rfl)) ?_
    refine S.sil 31 rfl rfl (fun _ hF => .lenT sli31 (lk 0 rfl rfl) (vsub rfl (.refl _))) ?_
    refine S.sil 32 rfl rfl (fun _ hF => .leq (lk 0 rfl rfl) cI) ?_
    obtain ⟨v10, ev10, h⟩ := h.nam
    refine S.sil 2 rfl rfl (fun _ hF => .nv (.assign (lk 0 rfl rfl)) (congrArg V.bool ev10.symm)) ?_
    refine S.nil ?_
    refine thenQ_n ?_
    refine AWp.ret ?_
    obtain rfl := h.ret
    exact endF1 rfl (Wk.selS [] .nil rfl (SelE.leaf (lk 0 rfl rfl) rfl (.refl _) (fun m => (TyOk.bool.lt _ _)) .nil) .nil) (.tmp (lk 0 rfl rfl) rfl) rfl rfl
theorem C_cloneO_38 {a1 : List THold} {r : List THold} (h : app 40 [] a1 = some r) : CallSpec Pg 38 [E_S_THold a1] [] fun o H' => o = .ret (.slo 5 0 [] 0 0 r.length 1) ∧ H' = [.buf 5 (List.map E_THold r)] := by
  refine CallSpec.of_bodyF 8 0 fn38 rfl rfl rfl (Nat.le_of_ble_eq_true rfl) ?_
  have hr := (app_get h).2
  refine AWp.seq ?_
  refine W.reg [0] rfl ?_
  refine S.sil 2 rfl rfl (fun _ hF => .assign cNs) ?_
  refine S.nil ?_
  refine thenQ_n ?_
  refine AWp.splitNil (t := 0) (lk 1 rfl rfl) (fun hn => ?_) ?_
  · obtain rfl : a1 = [] := List.map_eq_nil_iff.1 hn
    obtain rfl : r = [] := by simpa using hr
    refine AWp.seq ?_
    refine AWp.seq ?_
    refine W.reg [0, 1] rfl ?_
    refine S.sil 3 rfl rfl (fun _ hF => .move (lk 0 rfl rfl)) ?_
    refine S.sil 4 rfl rfl (fun _ hF => .eqlNil sli31 (lk 0 rfl rfl) cNs) ?_
    refine S.nil ?_
    refine thenQ_n ?_
    refine AWp.condT (lk 0 rfl rfl) ?_
    refine AWp.seq ?_
    refine W.reg [0] rfl ?_
    refine S.sil 2 rfl rfl (fun _ hF => .assign cNs) ?_
    refine S.nil ?_
    refine thenQ_n ?_
    refine AWp.ret ?_
    refine thenQ_r ?_
    refine endF_wk (Wk.nilbuf 5 (lk 0 rfl rfl)) ?_
    exact endF1 rfl (Wk.selS [0] (by decide) rfl (SelE.spec (lk 0 rfl rfl) rfl (.refl _) rfl rfl .nil) (.cons rfl rfl (ASub.refl _) .nil)) (.tmp (lk 0 rfl rfl) rfl) rfl rfl
  · refine AWp.seq ?_
    refine AWp.seq ?_
    refine W.reg [0, 1] rfl ?_
    refine S.sil 3 rfl rfl (fun _ hF => .move (lk 0 rfl rfl)) ?_
    refine S.sil 4 rfl rfl (fun _ hF => .eqlNn sli31 (lk 0 rfl rfl) cNs) ?_
    refine S.nil ?_
    refine thenQ_n ?_
    refine AWp.condF (lk 0 rfl rfl) ?_
    refine AWp.skip ?_
    refine thenQ_n ?_
    refine AWp.seq ?_
    refine W.reg [0, 1, 2, 3] rfl ?_
    refine S.sil 5 rfl rfl (fun _ hF => .buildSliceW sli31 zv66 rfl rfl (by decide) .nil) ?_
    refine S.sil 6 rfl rfl (fun _ hF => .move (lk 3 rfl rfl)) ?_
    refine S.new 7 rfl rfl (.appNewT sli31 und31 zv66 rfl (by decide) (lk 1 rfl rfl) (V.sub.refl _) (lk 0 rfl rfl) Rd.sl h rfl) trivial ?_
    refine S.sil 2 rfl rfl (fun _ hF => .assign (lk 0 rfl rfl)) ?_
    refine S.nil ?_
    refine thenQ_n ?_
    refine AWp.ret ?_
    exact endF1 rfl (Wk.selS [0] (by decide) rfl (SelE.spec (lk 0 rfl rfl) rfl (.refl _) rfl rfl .nil) (.cons (lt_buf ty_THold) rfl ⟨rfl, RSubL.leafr ty_THold _ rfl⟩ .nil)) (.tmp (lk 0 rfl rfl) rfl) rfl rfl
end Go.Av
namespace Go.Proofs
open Go.Shelf in
def Try.sort107_ren : Go.Shelf.Ren := ⟨fun | 6 => 107 | 15 => 102 | 14 => 150 | 28 => 145 | 29 => 146 | 20 => 173 | 21 => 174 | 22 => 175 | 23 => 176 | 24 => 177 | 25 => 178 | 26 => 179 | 27 => 180 | 46 => 184 | 47 => 169 | 48 => 170 | 49 => 185 | 50 => 186 | 57 => 189 | n => n, fun | 22 => 31 | 24 => 66 | 25 => 137 | 3 => 3 | 39 => 130 | 0 => 0 | 53 => 164 | 55 => 166 | 4 => 4 | 46 => 158 | 45 => 157 | 50 => 85 | 5 => 5 | 9 => 9 | 66 => 181 | 70 => 185 | 76 => 193 | 77 => 145 | n => n, fun | n => n⟩
open Go.Shelf in
theorem Try.sort107 : Go.Proofs.SlLaysF0.n6 Try.prog Try.sort107_ren := {
  mixed := by kernel_rfl
  f6 := ⟨Try.f107.name, by decide, Try.func107.trans (congrArg some (by kernel_rfl))⟩
  f14 := ⟨Try.f150.name, by decide, Try.func150.trans (congrArg some (by kernel_rfl))⟩
  f15 := Try.func102.trans (congrArg some (by kernel_rfl))
  f20 := ⟨Try.f173.name, by decide, Try.func173.trans (congrArg some (by kernel_rfl))⟩
  f21 := ⟨Try.f174.name, by decide, Try.func174.trans (congrArg some (by kernel_rfl))⟩
  f22 := ⟨Try.f175.name, by decide, Try.func175.trans (congrArg some (by kernel_rfl))⟩
  f23 := ⟨Try.f176.name, by decide, Try.func176.trans (congrArg some (by kernel_rfl))⟩
  f24 := ⟨Try.f177.name, by decide, Try.func177.trans (congrArg some (by kernel_rfl))⟩
  f25 := ⟨Try.f178.name, by decide, Try.func178.trans (congrArg some (by kernel_rfl))⟩
  f26 := ⟨Try.f179.name, by decide, Try.func179.trans (congrArg some (by kernel_rfl))⟩
  f27 := ⟨Try.f180.name, by decide, Try.func180.trans (congrArg some (by kernel_rfl))⟩
  f28 := Try.func145.trans (congrArg some (by kernel_rfl))
  f29 := Try.func146.trans (congrArg some (by kernel_rfl))
  f46 := ⟨Try.f184.name, by decide, Try.func184.trans (congrArg some (by kernel_rfl))⟩
  f47 := Try.func169.trans (congrArg some (by kernel_rfl))
  f48 := Try.func170.trans (congrArg some (by kernel_rfl))
  f49 := ⟨Try.f185.name, by decide, Try.func185.trans (congrArg some (by kernel_rfl))⟩
  f50 := ⟨Try.f186.name, by decide, Try.func186.trans (congrArg some (by kernel_rfl))⟩
  f57 := ⟨Try.f189.name, by decide, Try.func189.trans (congrArg some (by kernel_rfl))⟩
  t0 := Try.underlying0
  a0 := Try.isAgg0
  z0 := Try.sizeOf0
  v0 := Try.zeroValue0
  t3 := Try.underlying3
  a3 := Try.isAgg3
  z3 := Try.sizeOf3
  v3 := Try.zeroValue3
  t4 := Try.underlying4
  a4 := Try.isAgg4
  z4 := Try.sizeOf4
  v4 := Try.zeroValue4
  t5 := Try.underlying5
  a5 := Try.isAgg5
  z5 := Try.sizeOf5
  v5 := Try.zeroValue5
  t9 := Try.underlying9
  a9 := Try.isAgg9
  z9 := Try.sizeOf9
  v9 := Try.zeroValue9
  t22 := Try.underlying31
  a22 := Try.isAgg31
  z22 := Try.sizeOf31
  v22 := Try.zeroValue31
  t25 := Try.underlying137
  a25 := Try.isAgg137
  z25 := Try.sizeOf137
  v25 := Try.zeroValue137
  t39 := Try.underlying130
  a39 := Try.isAgg130
  z39 := Try.sizeOf130
  v39 := Try.zeroValue130
  t45 := Try.underlying157
  a45 := Try.isAgg157
  z45 := Try.sizeOf157
  v45 := Try.zeroValue157
  t46 := Try.underlying158
  a46 := Try.isAgg158
  z46 := Try.sizeOf158
  v46 := Try.zeroValue158
  t50 := Try.underlying85
  a50 := Try.isAgg85
  z50 := Try.sizeOf85
  v50 := Try.zeroValue85
  t53 := Try.underlying164
  a53 := Try.isAgg164
  z53 := Try.sizeOf164
  v53 := Try.zeroValue164
  t55 := Try.underlying166
  a55 := Try.isAgg166
  z55 := Try.sizeOf166
  v55 := Try.zeroValue166
  t66 := Try.underlying181
  a66 := Try.isAgg181
  z66 := Try.sizeOf181
  v66 := Try.zeroValue181
  t70 := Try.underlying185
  a70 := Try.isAgg185
  z70 := Try.sizeOf185
  v70 := Try.zeroValue185
  t76 := Try.underlying193
  a76 := Try.isAgg193
  z76 := Try.sizeOf193
  v76 := Try.zeroValue193
  t77 := Try.underlying145
  a77 := Try.isAgg145
  z77 := Try.sizeOf145
  v77 := Try.zeroValue145 }
end Go.Proofs
namespace Go.Av
open Go.Proofs
theorem srt107 : Go.Proofs.SlLaysF0.n6 Pg Go.Proofs.Try.sort107_ren := by rw [Pg_eq]; exact Go.Proofs.Try.sort107
theorem C_hold_Reserve {a1 : List THold} {a2 : Int} {a3 : Int} {a4 : Int} {r : (List THold) × Int × Int} (h : hold_Reserve a1 a2 a3 a4 = some r) : PureC Pg 70 [.sl 5 .no (List.map E_THold a1), (V.int .i64) a2, (V.int .i64) a3, (V.int .i64) a4] (.tup [E_S_THold r.1, (V.int .i64) r.2.1, (V.int .i64) r.2.2]) := by
  refine PureC.ofF (CallSpec.of_bodyF 59 0 fn70 rfl rfl rfl (Nat.le_of_ble_eq_true rfl) ?_) (ltL_c (lt_sl rfl (ty_THold.ltm _ _)) (ltL_c ((TyOk.int .i64).lt _ _) (ltL_c ((TyOk.int .i64).lt _ _) (ltL_c ((TyOk.int .i64).lt _ _) ltL_nil)))) (lt_tup (ltL_c (ty_S_THold.lt _ _) (ltL_c ((TyOk.int .i64).lt _ _) (ltL_c ((TyOk.int .i64).lt _ _) ltL_nil))))
  replace h := Ok.of h
  unfold hold_Reserve at h
  refine AWp.seq ?_
  refine W.reg [0, 1, 2] rfl ?_
  refine S.sil 8 rfl rfl (fun _ hF => .assign cNs) ?_
  refine S.sil 9 rfl rfl (fun _ hF => .assign cI) ?_
  refine S.sil 10 rfl rfl (fun _ hF => .assign cI) ?_
  refine S.nil ?_
  refine thenQ_n ?_
  refine AWp.seq ?_
  refine W.reg [0] rfl ?_
  refine S.sil 11 rfl rfl (fun _ hF => .assign cI) ?_
  refine S.nil ?_
  refine thenQ_n ?_
  refine AWp.seq ?_
  refine AWp.seq ?_
  refine W.reg [0, 1, 2] rfl ?_
  refine S.sil 16 rfl rfl (fun _ hF => .move (lk 4 rfl rfl)) ?_
  refine S.sil 17 rfl rfl (fun _ hF => .lenT sli31 (lk 0 rfl rfl) (vsub rfl (.refl _))) ?_
  refine S.sil 18 rfl rfl (fun _ hF => .move cI) ?_
  refine S.nil ?_
  refine thenQ_n ?_
  refine AWp.cutX (fun x7 => ⟨[(11, (V.int .i64) x7), (10, (V.int .i64) 0), (9, (V.int .i64) 0), (8, .nils), (0, .sl 5 .no (List.map E_THold a1)), (1, (V.int .i64) a2), (2, (V.int .i64) a3), (3, (V.int .i64) a4)], []⟩) nc_then h (fun q5 hq5 => ?_) (fun x7 h => ?_)
  · refine AWp.block ?_
    refine AWp.loopT (fun s6 => ⟨[(18, (V.int .i64) s6.1), (17, (V.int .i64) (a1.length : Int)), (16, .sl 5 .no (List.map E_THold a1)), (11, (V.int .i64) s6.2), (10, (V.int .i64) 0), (9, (V.int .i64) 0), (8, .nils), (0, .sl 5 .no (List.map E_THold a1)), (1, (V.int .i64) a2), (2, (V.int .i64) a3), (3, (V.int .i64) a4)], []⟩) hq5 (Wk.selS [] (by decide) rfl (SelE.leaf (lk 0 rfl rfl) rfl (.refl _) (fun m => ((TyOk.int .i64).lt _ _)) (SelE.leaf (lk 1 rfl rfl) rfl (.refl _) (fun m => ((TyOk.int .i64).lt _ _)) (SelE.leaf (lk 2 rfl rfl) rfl (.refl _) (fun m => (lt_sl rfl (ty_THold.ltm _ _))) (SelE.leaf (lk 3 rfl rfl) rfl (.refl _) (fun m => ((TyOk.int .i64).lt _ _)) (SelE.leaf (lk 4 rfl rfl) rfl (.refl _) (fun m => ((TyOk.int .i64).lt _ _)) (SelE.leaf (lk 5 rfl rfl) rfl (.refl _) (fun m => ((TyOk.int .i64).lt _ _)) (SelE.leaf (lk 6 rfl rfl) rfl (.refl _) (fun m => rfl) (SelE.leaf (lk 7 rfl rfl) rfl (.refl _) (fun m => (lt_sl rfl (ty_THold.ltm _ _))) (SelE.leaf (lk 8 rfl rfl) rfl (.refl _) (fun m => ((TyOk.int .i64).lt _ _)) (SelE.leaf (lk 9 rfl rfl) rfl (.refl _) (fun m => ((TyOk.int .i64).lt _ _)) (SelE.leaf (lk 10 rfl rfl) rfl (.refl _) (fun m => ((TyOk.int .i64).lt _ _)) .nil))))))))))) .nil) (fun _ s6 h5 => ?_)
    rw [hold_Reserve_L1] at h5
    refine AWp.seq ?_
    refine W.reg [0] rfl ?_
    refine S.sil 19 rfl rfl (fun _ hF => .lss (lk 0 rfl rfl) (lk 1 rfl rfl)) ?_
    refine S.nil ?_
    refine thenQ_n ?_
    refine AWp.seq ?_
    refine AWp.condM (lk 0 rfl rfl) h5 (fun c1 h5 => ?_) (fun c1 h5 => ?_)
    · skip
      refine AWp.skip ?_
      refine thenQ_n ?_
      refine AWp.seq ?_
      refine AWp.block ?_
      refine AWp.seq ?_
      refine W.reg [0, 1, 2, 3] rfl ?_
      obtain ⟨j8, m8, h5⟩ := h5.bnd
      refine S.sil 20 rfl rfl (fun _ hF => .ixS sli31 (lk 3 rfl rfl) (lk 1 rfl rfl) m8) ?_
      obtain ⟨v9, ev9, h5⟩ := h5.nam
      refine S.sil 21 rfl rfl (fun _ hF => .nv (.loadC sz66 ag66 (lk 0 rfl rfl) (ty_THold.fl (a1.getD j8 default)) rfl) (congrArg E_THold ev9.symm)) ?_
      refine S.eff 13 rfl rfl (.nf (v2 := .ptr 0 [] 0) (H2 := [.cells (E_THold (default : THold))]) (.alloc zv66) rfl rfl) trivial ?_
      refine S.effN rfl rfl (.nf (H2 := [.cells (E_THold v9)]) (.storeP sz66 (lk 0 rfl rfl) (lk 1 rfl rfl) rfl (.refl _) rfl .nil (by first | rfl | omega) .nil (ty_THold.fl v9) (ty_THold.fl (default : THold)) rfl) rfl rfl) trivial ?_
      refine S.nil ?_
      refine thenQ_n ?_
      refine AWp.wk (Wk.freeze 0 rfl rfl (.cons (lk 0 rfl rfl) rfl (.ptr .nil (by first | rfl | omega)) (.same (lk 1 rfl rfl) (.same (lk 2 rfl rfl) (.same (lk 3 rfl rfl) (.same (lk 4 rfl rfl) (.same (lk 5 rfl rfl) (.same (lk 6 rfl rfl) (.same (lk 7 rfl rfl) (.same (lk 8 rfl rfl) (.same (lk 9 rfl rfl) (.same (lk 10 rfl rfl) (.same (lk 11 rfl rfl) (.same (lk 12 rfl rfl) (.same (lk 13 rfl rfl) (.same (lk 14 rfl rfl) .nil))))))))))))))) (.refl _)) ?_
      refine AWp.seq ?_
      refine W.reg [0, 1, 2, 3] rfl ?_
      refine S.sil 22 rfl rfl (fun _ hF => .fieldAddrC lay66 rfl rfl (lk 0 rfl rfl) rfl flL_nil) ?_
      refine S.sil 23 rfl rfl (fun _ hF => .loadC sz3 ag3 (lk 0 rfl rfl) rfl rfl) ?_
      refine S.sil 24 rfl rfl (fun _ hF => .move (lk 14 rfl rfl)) ?_
      refine S.sil 25 rfl rfl (fun _ hF => .eql (lk 1 rfl rfl) (lk 0 rfl rfl)) ?_
      refine S.nil ?_
      refine thenQ_n ?_
      refine AWp.condM (lk 0 rfl rfl) h5 (fun c2 h5 => ?_) (fun c2 h5 => ?_)
      · skip
        refine W.reg [0, 1, 2, 3, 4, 5] rfl ?_
        refine S.sil 26 rfl rfl (fun _ hF => .move (lk 11 rfl rfl)) ?_
        refine S.sil 27 rfl rfl (fun _ hF => .fieldAddrC lay66 rfl rfl (lk 5 rfl rfl) rfl (flL_c (show flen _ = 1 from rfl) flL_nil)) ?_
        refine S.sil 28 rfl rfl (fun _ hF => .loadC sz3 ag3 (lk 0 rfl rfl) rfl rfl) ?_
        refine S.sil 29 rfl rfl (fun _ hF => .add (lk 0 rfl rfl) cI) ?_
        refine S.sil 30 rfl rfl (fun _ hF => .bmax (lk 3 rfl rfl) (lk 0 rfl rfl)) ?_
        obtain ⟨v10, ev10, h5⟩ := h5.nam
        refine S.sil 11 rfl rfl (fun _ hF => .nv (.assign (lk 0 rfl rfl)) (congrArg (V.int .i64) ev10.symm)) ?_
        refine S.nil ?_
        refine blockQ_n ?_
        refine thenQ_n ?_
        refine W.reg [0, 1] rfl ?_
        refine S.sil 31 rfl rfl (fun _ hF => .add (lk 14 rfl rfl) cI) ?_
        refine S.sil 18 rfl rfl (fun _ hF => .move (lk 0 rfl rfl)) ?_
        refine S.nil ?_
        refine thenQ_n ?_
        exact ⟨_, h5.ret, (Wk.selS [] (by decide) rfl (SelE.leaf (lk 0 rfl rfl) rfl (.refl _) (fun m => ((TyOk.int .i64).lt _ _)) (SelE.leaf (lk 17 rfl rfl) rfl (.refl _) (fun m => ((TyOk.int .i64).lt _ _)) (SelE.leaf (lk 18 rfl rfl) rfl (.refl _) (fun m => (lt_sl rfl (ty_THold.ltm _ _))) (SelE.leaf (lk 2 rfl rfl) rfl (.refl _) (fun m => ((TyOk.int .i64).lt _ _)) (SelE.leaf (lk 20 rfl rfl) rfl (.refl _) (fun m => ((TyOk.int .i64).lt _ _)) (SelE.leaf (lk 21 rfl rfl) rfl (.refl _) (fun m => ((TyOk.int .i64).lt _ _)) (SelE.leaf (lk 22 rfl rfl) rfl (.refl _) (fun m => rfl) (SelE.leaf (lk 23 rfl rfl) rfl (.refl _) (fun m => (lt_sl rfl (ty_THold.ltm _ _))) (SelE.leaf (lk 24 rfl rfl) rfl (.refl _) (fun m => ((TyOk.int .i64).lt _ _)) (SelE.leaf (lk 25 rfl rfl) rfl (.refl _) (fun m => ((TyOk.int .i64).lt _ _)) (SelE.leaf (lk 26 rfl rfl) rfl (.refl _) (fun m => ((TyOk.int .i64).lt _ _)) .nil))))))))))) .nil)⟩
      · skip
        refine AWp.skip ?_
        refine blockQ_n ?_
        refine thenQ_n ?_
        refine W.reg [0, 1] rfl ?_
        refine S.sil 31 rfl rfl (fun _ hF => .add (lk 8 rfl rfl) cI) ?_
        refine S.sil 18 rfl rfl (fun _ hF => .move (lk 0 rfl rfl)) ?_
        refine S.nil ?_
        refine thenQ_n ?_
        exact ⟨_, h5.ret, (Wk.selS [] (by decide) rfl (SelE.leaf (lk 0 rfl rfl) rfl (.refl _) (fun m => ((TyOk.int .i64).lt _ _)) (SelE.leaf (lk 11 rfl rfl) rfl (.refl _) (fun m => ((TyOk.int .i64).lt _ _)) (SelE.leaf (lk 12 rfl rfl) rfl (.refl _) (fun m => (lt_sl rfl (ty_THold.ltm _ _))) (SelE.leaf (lk 13 rfl rfl) rfl (.refl _) (fun m => ((TyOk.int .i64).lt _ _)) (SelE.leaf (lk 14 rfl rfl) rfl (.refl _) (fun m => ((TyOk.int .i64).lt _ _)) (SelE.leaf (lk 15 rfl rfl) rfl (.refl _) (fun m => ((TyOk.int .i64).lt _ _)) (SelE.leaf (lk 16 rfl rfl) rfl (.refl _) (fun m => rfl) (SelE.leaf (lk 17 rfl rfl) rfl (.refl _) (fun m => (lt_sl rfl (ty_THold.ltm _ _))) (SelE.leaf (lk 18 rfl rfl) rfl (.refl _) (fun m => ((TyOk.int .i64).lt _ _)) (SelE.leaf (lk 19 rfl rfl) rfl (.refl _) (fun m => ((TyOk.int .i64).lt _ _)) (SelE.leaf (lk 20 rfl rfl) rfl (.refl _) (fun m => ((TyOk.int .i64).lt _ _)) .nil))))))))))) .nil)⟩
    · skip
      refine AWp.exit ?_
      refine thenQ_x ?_
      refine thenQ_x ?_
      refine blockQ_x ?_
      refine thenQ_n ?_
      exact ⟨_, h5.ret, (Wk.selS [] (by decide) rfl (SelE.leaf (lk 4 rfl rfl) rfl (.refl _) (fun m => ((TyOk.int .i64).lt _ _)) (SelE.leaf (lk 5 rfl rfl) rfl (.refl _) (fun m => ((TyOk.int .i64).lt _ _)) (SelE.leaf (lk 6 rfl rfl) rfl (.refl _) (fun m => ((TyOk.int .i64).lt _ _)) (SelE.leaf (lk 7 rfl rfl) rfl (.refl _) (fun m => rfl) (SelE.leaf (lk 8 rfl rfl) rfl (.refl _) (fun m => (lt_sl rfl (ty_THold.ltm _ _))) (SelE.leaf (lk 9 rfl rfl) rfl (.refl _) (fun m => ((TyOk.int .i64).lt _ _)) (SelE.leaf (lk 10 rfl rfl) rfl (.refl _) (fun m => ((TyOk.int .i64).lt _ _)) (SelE.leaf (lk 11 rfl rfl) rfl (.refl _) (fun m => ((TyOk.int .i64).lt _ _)) .nil)))))))) .nil)⟩
  · skip
    refine thenQ_n ?_
    refine AWp.seq ?_
    refine W.reg [0, 1, 2, 3, 4, 5, 6] rfl ?_
    refine S.sil 32 rfl rfl (fun _ hF => .move (lk 5 rfl rfl)) ?_
    refine S.sil 33 rfl rfl (fun _ hF => .move (lk 1 rfl rfl)) ?_
    refine S.sil 34 rfl rfl (fun _ hF => .move (lk 8 rfl rfl)) ?_
    refine S.sil 35 rfl rfl (fun _ hF => .move (lk 10 rfl rfl)) ?_
    obtain ⟨v11, ev11, h⟩ := h.nam
    refine S.sil 36 rfl rfl (fun _ hF => .nv (.nv (v2 := E_THold (⟨a2, x7, a3, a4, 1⟩ : THold)) (.buildStW lay66 zv66 rfl (.cons (lk 3 rfl rfl) rfl rfl rfl rfl (.cons (lk 2 rfl rfl) rfl rfl rfl rfl (.cons (lk 1 rfl rfl) rfl rfl rfl rfl (.cons (lk 0 rfl rfl) rfl rfl rfl rfl (.cons cI rfl rfl rfl rfl .nil)))))) rfl) (congrArg E_THold ev11.symm)) ?_
    refine S.eff 14 rfl rfl (.nf (v2 := .ptr 0 [] 0) (H2 := [.cells (E_THold (default : THold))]) (.alloc zv66) rfl rfl) trivial ?_
    refine S.effN rfl rfl (.nf (H2 := [.cells (E_THold v11)]) (.storeP sz66 (lk 0 rfl rfl) (lk 1 rfl rfl) rfl (.refl _) rfl .nil (by first | rfl | omega) .nil (ty_THold.fl v11) (ty_THold.fl (default : THold)) rfl) rfl rfl) trivial ?_
    refine S.nil ?_
    refine thenQ_n ?_
    refine AWp.wk (Wk.freeze 0 rfl rfl (.cons (lk 0 rfl rfl) rfl (.ptr .nil (by first | rfl | omega)) (.same (lk 6 rfl rfl) (.same (lk 7 rfl rfl) (.same (lk 8 rfl rfl) (.same (lk 9 rfl rfl) (.same (lk 10 rfl rfl) .nil)))))) (.refl _)) ?_
    refine AWp.seq ?_
    refine AWp.block ?_
    refine AWp.seq ?_
    refine W.reg [0, 1, 2, 3, 4, 5, 6, 7, 8] rfl ?_
    refine S.sil 38 rfl rfl (fun _ hF => .move (lk 5 rfl rfl)) ?_
    obtain ⟨r12, m12, h⟩ := h.bnd
    refine S.sil 39 rfl rfl (fun _ hF => .callQ ent76 cF (.c (lk 0 rfl rfl) (V.sub.refl _) .nil) (C_hold_Rights m12)) ?_
    refine S.sil 40 rfl rfl (fun _ hF => .not (lk 0 rfl rfl)) ?_
    refine S.sil 41 rfl rfl (fun _ hF => .move (lk 0 rfl rfl)) ?_
    refine S.gsil 42 3 41 false rfl rfl rfl (lk 0 rfl rfl) (fun hB _ hF => .loadC sz66 ag66 (lk 4 rfl rfl) (ty_THold.fl v11) rfl) ?_
    obtain ⟨r13, m13, h⟩ := h.bnd
    refine S.gsil 43 3 41 false rfl rfl rfl (lk 1 rfl rfl) (fun hB _ hF => .callQ ent124 cF (.c (ifT hB (lk 0 rfl rfl)) (V.sub.refl _) .nil) (C_hold_Right (gd_get m13 hB))) ?_
    refine S.gsil 44 3 41 false rfl rfl rfl (lk 2 rfl rfl) (fun hB _ hF => .not (ifT hB (lk 0 rfl rfl))) ?_
    refine S.sil 45 rfl rfl (fun _ hF => .pickOr (lk 3 rfl rfl) cB (fun h => ifT h (lk 0 rfl rfl))) ?_
    refine S.sil 37 rfl rfl (fun _ hF => .assign (lk 0 rfl rfl)) ?_
    refine S.nil ?_
    refine thenQ_n ?_
    refine AWp.condM (lk 0 rfl rfl) h (fun c3 h => ?_) (fun c3 h => ?_)
    · skip
      refine AWp.seq ?_
      refine W.reg [0, 1, 2] rfl ?_
      refine S.sil 8 rfl rfl (fun _ hF => .assign cNs) ?_
      refine S.sil 9 rfl rfl (fun _ hF => .assign cI) ?_
      refine S.sil 10 rfl rfl (fun _ hF => .assign cI) ?_
      refine S.nil ?_
      refine thenQ_n ?_
      refine AWp.prune (.eq (lk 0 rfl rfl) rfl (.eq (lk 1 rfl rfl) rfl (.eq (lk 2 rfl rfl) rfl (.eq (lk 12 rfl rfl) rfl (.eq (lk 13 rfl rfl) rfl (.eq (lk 17 rfl rfl) rfl .nil)))))) ?_
      refine AWp.ret ?_
      refine blockQ_r ?_
      refine thenQ_r ?_
      obtain rfl := h.ret
      exact endFN rfl (Wk.selS [] .nil rfl (SelE.leaf (lk 2 rfl rfl) rfl (.nils_no _) (fun m => (ty_S_THold.lt ([] : List THold) _)) (SelE.leaf (lk 1 rfl rfl) rfl (.refl _) (fun m => ((TyOk.int .i64).lt _ _)) (SelE.leaf (lk 0 rfl rfl) rfl (.refl _) (fun m => ((TyOk.int .i64).lt _ _)) .nil))) .nil) (.cons (.tmp (lk 0 rfl rfl) rfl) (.cons (.tmp (lk 1 rfl rfl) rfl) (.cons (.tmp (lk 2 rfl rfl) rfl) .nil))) rfl rfl rfl
    · skip
      refine AWp.seq ?_
      refine W.reg [0, 1, 2, 3] rfl ?_
      refine S.sil 47 rfl rfl (fun _ hF => .move (lk 14 rfl rfl)) ?_
      refine S.sil 48 rfl rfl (fun _ hF => .lenT sli31 (lk 0 rfl rfl) (vsub rfl (.refl _))) ?_
      refine S.sil 49 rfl rfl (fun _ hF => .eql (lk 0 rfl rfl) cI) ?_
      obtain ⟨v14, ev14, h⟩ := h.nam
      refine S.sil 46 rfl rfl (fun _ hF => .nv (.assign (lk 0 rfl rfl)) (congrArg V.bool ev14.symm)) ?_
      refine S.nil ?_
      refine thenQ_n ?_
      refine AWp.prune (.eq (lk 0 rfl rfl) rfl (.eq (lk 13 rfl rfl) rfl (.eq (lk 14 rfl rfl) rfl (.eq (lk 15 rfl rfl) rfl (.eq (lk 16 rfl rfl) rfl (.eq (lk 17 rfl rfl) rfl (.eq (lk 18 rfl rfl) rfl .nil))))))) ?_
      refine AWp.condM (lk 0 rfl rfl) h (fun c4 h => ?_) (fun c4 h => ?_)
      · skip
        refine AWp.seq ?_
        refine W.reg [0, 1, 2] rfl ?_
        refine S.sil 8 rfl rfl (fun _ hF => .assign cNs) ?_
        refine S.sil 9 rfl rfl (fun _ hF => .assign cI) ?_
        refine S.sil 10 rfl rfl (fun _ hF => .assign cI) ?_
        refine S.nil ?_
        refine thenQ_n ?_
        refine AWp.ret ?_
        refine blockQ_r ?_
        refine thenQ_r ?_
        obtain rfl := h.ret
        exact endFN rfl (Wk.selS [] .nil rfl (SelE.leaf (lk 2 rfl rfl) rfl (.nils_no _) (fun m => (ty_S_THold.lt ([] : List THold) _)) (SelE.leaf (lk 1 rfl rfl) rfl (.refl _) (fun m => ((TyOk.int .i64).lt _ _)) (SelE.leaf (lk 0 rfl rfl) rfl (.refl _) (fun m => ((TyOk.int .i64).lt _ _)) .nil))) .nil) (.cons (.tmp (lk 0 rfl rfl) rfl) (.cons (.tmp (lk 1 rfl rfl) rfl) (.cons (.tmp (lk 2 rfl rfl) rfl) .nil))) rfl rfl rfl
      · skip
        refine AWp.skip ?_
        refine blockQ_n ?_
        refine thenQ_n ?_
        refine AWp.seq ?_
        refine W.regD [0, 1, 2, 3, 4, 5] mixed ?_
        refine S.sil 50 rfl rfl (fun _ hF => .move (lk 6 rfl rfl)) ?_
        obtain ⟨l15, m15, h⟩ := h.bnd
        refine S.new 51 rfl rfl (.callN ent38 cF [] (C_cloneO_38 m15) .nil .nil (ltL_c (ty_S_THold.lt _ _) ltL_nil) (.c (lk 0 rfl rfl) (vsubr (V.sub.refl _) (ty_S_THold.lt _ 0)) .nil) rfl (mapc (ren_buf ty_THold _) rfl) rfl) trivial ?_
        refine S.sil 52 rfl rfl (fun _ hF => .loadC sz66 ag66 (lk 3 rfl rfl) (ty_THold.fl v11) rfl) ?_
        refine S.sil 53 rfl rfl (fun _ hF => .buildSliceW sli31 zv66 rfl rfl (by decide) (.cons (lk 0 rfl rfl) rfl (.refl _) (ty_THold.fl v11) .nil)) ?_
        obtain ⟨l16, m16, h⟩ := h.bnd
        refine S.eff 54 rfl rfl (.appOwnT sli31 und31 zv66 rfl (by decide) (lk 2 rfl rfl) rfl (by first | rfl | simp) (lk 0 rfl rfl) Rd.sl m16 rfl) trivial ?_
        refine S.sil 15 rfl rfl (fun _ hF => .assign (lk 0 rfl rfl)) ?_
        refine S.nilD (by kernel_rfl) ?_
        refine thenQ_n ?_
        refine AWp.seq ?_
        refine W.reg [0, 1] rfl ?_
        refine S.sil 55 rfl rfl (fun _ hF => .move (lk 0 rfl rfl)) ?_
        obtain ⟨l17, m17, h⟩ := h.bnd
        refine S.eff 56 rfl rfl (.nf (H2 := [.dead, .dead, .buf 5 (List.map E_THold l17)]) (.sortFunc (ρ := Go.Proofs.Try.sort107_ren) srt107 rfl rfl ag66 sz66 ty_THold holdCmp_swo ent107 ent108 ltL_nil (fun x y => C_hold_compare (hold_compare_eq x y)) cF (lk 0 rfl rfl) cF rfl (by first | rfl | simp) m17 rfl) rfl rfl) trivial ?_
        refine S.nil ?_
        refine thenQ_n ?_
        refine AWp.prune (.eq (lk 2 rfl rfl) rfl (.eq (lk 10 rfl rfl) rfl (.eq (lk 11 rfl rfl) rfl (.eq (lk 12 rfl rfl) rfl (.eq (lk 13 rfl rfl) rfl .nil))))) ?_
        refine AWp.seq ?_
        refine W.reg [0, 1, 2, 3, 4] rfl ?_
        refine S.sil 57 rfl rfl (fun _ hF => .move (lk 0 rfl rfl)) ?_
        refine S.sil 58 rfl rfl (fun _ hF => .move (lk 2 rfl rfl)) ?_
        refine S.sil 8 rfl rfl (fun _ hF => .assign (lk 1 rfl rfl)) ?_
        refine S.sil 9 rfl rfl (fun _ hF => .assign (lk 1 rfl rfl)) ?_
        refine S.sil 10 rfl rfl (fun _ hF => .assign cI) ?_
        refine S.nil ?_
        refine thenQ_n ?_
        refine AWp.ret ?_
        refine endF_wk (Wk.freeze 2 rfl rfl (.same (lk 0 rfl rfl) (.same (lk 1 rfl rfl) (.cons (lk 2 rfl rfl) rfl (.slo (by first | rfl | simp [(sort_len holdCmp_swo m17)])) (.same (lk 0 rfl rfl) (.same (lk 1 rfl rfl) (.same (lk 2 rfl rfl) .nil)))))) (.refl _)) ?_
        obtain rfl := h.ret
        exact endFN rfl (Wk.selS [] .nil rfl (SelE.leaf (lk 2 rfl rfl) rfl (.refl _) (fun m => (ty_S_THold.lt _ _)) (SelE.leaf (lk 1 rfl rfl) rfl (.refl _) (fun m => ((TyOk.int .i64).lt _ _)) (SelE.leaf (lk 0 rfl rfl) rfl (.refl _) (fun m => ((TyOk.int .i64).lt _ _)) .nil))) .nil) (.cons (.tmp (lk 0 rfl rfl) rfl) (.cons (.tmp (lk 1 rfl rfl) rfl) (.cons (.tmp (lk 2 rfl rfl) rfl) .nil))) rfl rfl rfl
theorem C_field_Reserve {a1 : TField} {a2 : Int} {a3 : Int} {a4 : Int} {r : TField × Int × Int} (h : field_Reserve a1 a2 a3 a4 = some r) : PureC Pg 32 [E_TField a1, (V.int .i64) a2, (V.int .i64) a3, (V.int .i64) a4] (.tup [E_TField r.1, (V.int .i64) r.2.1, (V.int .i64) r.2.2]) := by
  refine PureC.ofF (CallSpec.of_bodyF 41 0 fn32 rfl rfl rfl (Nat.le_of_ble_eq_true rfl) ?_) (ltL_c (ty_TField.lt _ _) (ltL_c ((TyOk.int .i64).lt _ _) (ltL_c ((TyOk.int .i64).lt _ _) (ltL_c ((TyOk.int .i64).lt _ _) ltL_nil)))) (lt_tup (ltL_c (ty_TField.lt _ _) (ltL_c ((TyOk.int .i64).lt _ _) (ltL_c ((TyOk.int .i64).lt _ _) ltL_nil))))
  replace h := Ok.of h
  unfold field_Reserve at h
  refine AWp.seq ?_
  refine W.reg [0, 1, 2, 3] rfl ?_
  refine S.eff 4 rfl rfl (.nf (v2 := .ptr 0 [] 0) (H2 := [.cells (E_TField a1)]) (.box (lk 0 rfl rfl) rfl) rfl rfl) trivial ?_
  refine S.eff 8 rfl rfl (.nf (v2 := .ptr 1 [] 0) (H2 := [.cells (E_TField a1), .cells (.st [V.str (default : ByteArray), (V.int .i64) 0, (V.int .i64) 0, E_TCounter (default : TCounter), E_TLock (default : TLock), .nils])]) (.alloc zv33) rfl rfl) trivial ?_
  refine S.sil 9 rfl rfl (fun _ hF => .assign cI) ?_
  refine S.sil 10 rfl rfl (fun _ hF => .assign cI) ?_
  refine S.nil ?_
  refine thenQ_n ?_
  refine AWp.seq ?_
  refine AWp.seq ?_
  refine W.reg [0, 1, 2, 3, 4] rfl ?_
  refine S.qui 15 rfl rfl (fun _ => .loadP sz33 ag33 (lk 3 rfl rfl) rfl .nil (by first | rfl | omega) (ty_TField.fl a1) rfl) ?_
  refine S.sil 16 rfl rfl (fun _ hF => .move (lk 6 rfl rfl)) ?_
  refine S.sil 17 rfl rfl (fun _ hF => .move (lk 8 rfl rfl)) ?_
  obtain ⟨r5, m5, h⟩ := h.bnd
  refine S.sil 18 rfl rfl (fun _ hF => .callQ ent65 cF (.c (lk 2 rfl rfl) (V.sub.refl _) (.c (lk 1 rfl rfl) (V.sub.refl _) (.c (lk 0 rfl rfl) (V.sub.refl _) .nil))) (C_field_lacks m5)) ?_
  refine S.sil 11 rfl rfl (fun _ hF => .assign (lk 0 rfl rfl)) ?_
  refine S.nil ?_
  refine thenQ_n ?_
  refine AWp.seq ?_
  refine W.reg [0, 1] rfl ?_
  refine S.sil 19 rfl rfl (fun _ hF => .move (lk 0 rfl rfl)) ?_
  refine S.sil 20 rfl rfl (fun _ hF => .neq (lk 0 rfl rfl) cI) ?_
  refine S.nil ?_
  refine thenQ_n ?_
  refine AWp.condM (lk 0 rfl rfl) h (fun c1 h => ?_) (fun c1 h => ?_)
  · skip
    refine AWp.seq ?_
    refine W.reg [0, 1, 2, 3, 4] rfl ?_
    obtain ⟨v6, ev6, h⟩ := h.nam
    refine S.sil 21 rfl rfl (fun _ hF => .nv (.vs (v := .st [V.str (default : ByteArray), (V.int .i64) 0, (V.int .i64) 0, E_TCounter (default : TCounter), E_TLock (default : TLock), .nils]) (v2 := E_TField (⟨(default : ByteArray), 0, 0, (default : TCounter), (default : TLock), ([] : List THold)⟩ : TField)) (.buildStW lay33 zv33 rfl .nil) rfl (.st (.cons (.refl _) (.cons (.refl _) (.cons (.refl _) (.cons (.refl _) (.cons (.refl _) (.cons (.nils_no _) .nil)))))))) (congrArg E_TField ev6.symm)) ?_
    refine S.sil 22 rfl rfl (fun _ hF => .move (lk 3 rfl rfl)) ?_
    refine S.effN rfl rfl (.nf (H2 := [.cells (E_TField a1), .cells (E_TField v6)]) (.storeP sz33 (lk 11 rfl rfl) (lk 1 rfl rfl) rfl (.refl _) rfl .nil (by first | rfl | omega) .nil (ty_TField.fl v6) (fl_st (flL_c (show flen _ = 1 from rfl) (flL_c (show flen _ = 1 from rfl) (flL_c (show flen _ = 1 from rfl) (flL_c (ty_TCounter.fl (default : TCounter)) (flL_c (ty_TLock.fl (default : TLock)) (flL_c (show flen _ = 1 from rfl) flL_nil))))))) rfl) rfl rfl) trivial ?_
    refine S.sil 9 rfl rfl (fun _ hF => .assign cI) ?_
    refine S.sil 10 rfl rfl (fun _ hF => .assign (lk 1 rfl rfl)) ?_
    refine S.nil ?_
    refine thenQ_n ?_
    refine AWp.prune (.eq (lk 0 rfl rfl) rfl (.eq (lk 1 rfl rfl) rfl (.eq (lk 13 rfl rfl) rfl (.eq (lk 14 rfl rfl) rfl (.eq (lk 16 rfl rfl) rfl (.eq (lk 17 rfl rfl) rfl (.eq (lk 18 rfl rfl) rfl .nil))))))) ?_
    refine AWp.ret ?_
    refine thenQ_r ?_
    refine endF_wk (Wk.freeze 1 rfl rfl (.same (lk 0 rfl rfl) (.same (lk 1 rfl rfl) (.cons (lk 2 rfl rfl) rfl (.ptr .nil (by first | rfl | omega)) .nil))) (.refl _)) ?_
    obtain rfl := h.ret
    exact endFN rfl (Wk.selS [] .nil rfl (SelE.leaf (lk 2 rfl rfl) rfl (.refl _) (fun m => (lt_cptr (ty_TField.lt _ _))) (SelE.leaf (lk 1 rfl rfl) rfl (.refl _) (fun m => ((TyOk.int .i64).lt _ _)) (SelE.leaf (lk 0 rfl rfl) rfl (.refl _) (fun m => ((TyOk.int .i64).lt _ _)) .nil))) .nil) (.cons (.cellC sz33 ag33 (lk 0 rfl rfl) (ty_TField.fl _) rfl) (.cons (.tmp (lk 1 rfl rfl) rfl) (.cons (.tmp (lk 2 rfl rfl) rfl) .nil))) rfl rfl rfl
  · skip
    refine AWp.skip ?_
    refine thenQ_n ?_
    refine AWp.seq ?_
    refine W.reg [0, 1, 2, 3, 4, 5, 6, 7, 8, 9, 10, 11, 12] rfl ?_
    refine S.sil 24 rfl rfl (fun _ hF => .fieldAddr lay33 rfl rfl (lk 10 rfl rfl)) ?_
    refine S.qui 25 rfl rfl (fun _ => .loadP sz31 ag31 (lk 0 rfl rfl) rfl (.st rfl (flL_c (show flen _ = 1 from rfl) (flL_c (show flen _ = 1 from rfl) (flL_c (show flen _ = 1 from rfl) (flL_c (ty_TCounter.fl a1.Counter) (flL_c (ty_TLock.fl a1.Lock) flL_nil))))) .nil) (by first | rfl | omega) rfl rfl) ?_
    refine S.sil 26 rfl rfl (fun _ hF => .move (lk 14 rfl rfl)) ?_
    refine S.sil 27 rfl rfl (fun _ hF => .move (lk 16 rfl rfl)) ?_
    refine S.sil 28 rfl rfl (fun _ hF => .move (lk 18 rfl rfl)) ?_
    obtain ⟨r7, m7, h⟩ := h.bnd
    refine S.sil 29 rfl rfl (fun _ hF => .callQ ent70 cF (.c (lk 3 rfl rfl) (V.sub.refl _) (.c (lk 2 rfl rfl) (V.sub.refl _) (.c (lk 1 rfl rfl) (V.sub.refl _) (.c (lk 0 rfl rfl) (V.sub.refl _) .nil)))) (C_hold_Reserve m7)) ?_
    refine S.sil 23 rfl rfl (fun _ hF => .move (lk 0 rfl rfl)) ?_
    refine S.sil 30 rfl rfl (fun _ hF => .extract (lk 0 rfl rfl) rfl) ?_
    refine S.sil 31 rfl rfl (fun _ hF => .extract (lk 1 rfl rfl) rfl) ?_
    refine S.sil 32 rfl rfl (fun _ hF => .extract (lk 2 rfl rfl) rfl) ?_
    refine S.sil 12 rfl rfl (fun _ hF => .assign (lk 2 rfl rfl)) ?_
    refine S.sil 13 rfl rfl (fun _ hF => .assign (lk 2 rfl rfl)) ?_
    refine S.sil 14 rfl rfl (fun _ hF => .assign (lk 2 rfl rfl)) ?_
    refine S.nil ?_
    refine thenQ_n ?_
    refine AWp.prune (.eq (lk 0 rfl rfl) rfl (.eq (lk 1 rfl rfl) rfl (.eq (lk 2 rfl rfl) rfl (.eq (lk 20 rfl rfl) rfl (.eq (lk 21 rfl rfl) rfl (.eq (lk 22 rfl rfl) rfl (.eq (lk 23 rfl rfl) rfl .nil))))))) ?_
    refine AWp.seq ?_
    refine AWp.seq ?_
    refine W.reg [0, 1] rfl ?_
    refine S.sil 33 rfl rfl (fun _ hF => .move (lk 0 rfl rfl)) ?_
    refine S.sil 34 rfl rfl (fun _ hF => .neq (lk 0 rfl rfl) cI) ?_
    refine S.nil ?_
    refine thenQ_n ?_
    refine AWp.condM (lk 0 rfl rfl) h (fun c2 h => ?_) (fun c2 h => ?_)
    · skip
      refine AWp.seq ?_
      refine W.reg [0, 1, 2, 3, 4] rfl ?_
      obtain ⟨v8, ev8, h⟩ := h.nam
      refine S.sil 35 rfl rfl (fun _ hF => .nv (.vs (v := .st [V.str (default : ByteArray), (V.int .i64) 0, (V.int .i64) 0, E_TCounter (default : TCounter), E_TLock (default : TLock), .nils]) (v2 := E_TField (⟨(default : ByteArray), 0, 0, (default : TCounter), (default : TLock), ([] : List THold)⟩ : TField)) (.buildStW lay33 zv33 rfl .nil) rfl (.st (.cons (.refl _) (.cons (.refl _) (.cons (.refl _) (.cons (.refl _) (.cons (.refl _) (.cons (.nils_no _) .nil)))))))) (congrArg E_TField ev8.symm)) ?_
      refine S.sil 36 rfl rfl (fun _ hF => .move (lk 3 rfl rfl)) ?_
      refine S.effN rfl rfl (.nf (H2 := [.cells (E_TField a1), .cells (E_TField v8)]) (.storeP sz33 (lk 9 rfl rfl) (lk 1 rfl rfl) rfl (.refl _) rfl .nil (by first | rfl | omega) .nil (ty_TField.fl v8) (fl_st (flL_c (show flen _ = 1 from rfl) (flL_c (show flen _ = 1 from rfl) (flL_c (show flen _ = 1 from rfl) (flL_c (ty_TCounter.fl (default : TCounter)) (flL_c (ty_TLock.fl (default : TLock)) (flL_c (show flen _ = 1 from rfl) flL_nil))))))) rfl) rfl rfl) trivial ?_
      refine S.sil 9 rfl rfl (fun _ hF => .assign cI) ?_
      refine S.sil 10 rfl rfl (fun _ hF => .assign (lk 1 rfl rfl)) ?_
      refine S.nil ?_
      refine thenQ_n ?_
      refine AWp.ret ?_
      refine thenQ_r ?_
      refine endF_wk (Wk.freeze 1 rfl rfl (.same (lk 0 rfl rfl) (.same (lk 1 rfl rfl) (.same (lk 0 rfl rfl) (.same (lk 1 rfl rfl) (.cons (lk 11 rfl rfl) rfl (.ptr .nil (by first | rfl | omega)) .nil))))) (.refl _)) ?_
      obtain rfl := h.ret
      exact endFN rfl (Wk.selS [] .nil rfl (SelE.leaf (lk 4 rfl rfl) rfl (.refl _) (fun m => (lt_cptr (ty_TField.lt _ _))) (SelE.leaf (lk 1 rfl rfl) rfl (.refl _) (fun m => ((TyOk.int .i64).lt _ _)) (SelE.leaf (lk 0 rfl rfl) rfl (.refl _) (fun m => ((TyOk.int .i64).lt _ _)) .nil))) .nil) (.cons (.cellC sz33 ag33 (lk 0 rfl rfl) (ty_TField.fl _) rfl) (.cons (.tmp (lk 1 rfl rfl) rfl) (.cons (.tmp (lk 2 rfl rfl) rfl) .nil))) rfl rfl rfl
    · skip
      refine AWp.skip ?_
      refine thenQ_n ?_
      refine AWp.seq ?_
      refine W.reg [0, 1, 2] rfl ?_
      refine S.sil 37 rfl rfl (fun _ hF => .move (lk 4 rfl rfl)) ?_
      refine S.sil 38 rfl rfl (fun _ hF => .fieldAddr lay33 rfl rfl (lk 9 rfl rfl)) ?_
      obtain ⟨v9, ev9, h⟩ := h.nam
      refine S.effN rfl rfl (.nf (H2 := [.cells (E_TField v9), .cells (.st [V.str (default : ByteArray), (V.int .i64) 0, (V.int .i64) 0, E_TCounter (default : TCounter), E_TLock (default : TLock), .nils])]) (.storeP sz31 (lk 0 rfl rfl) (lk 1 rfl rfl) rfl (.refl _) rfl (.st rfl (flL_c (show flen _ = 1 from rfl) (flL_c (show flen _ = 1 from rfl) (flL_c (show flen _ = 1 from rfl) (flL_c (ty_TCounter.fl a1.Counter) (flL_c (ty_TLock.fl a1.Lock) flL_nil))))) .nil) (by first | rfl | omega) (.st rfl .nil rfl) rfl rfl (congrArg (fun z => ([AObj.cells (E_TField z), .cells (.st [V.str (default : ByteArray), (V.int .i64) 0, (V.int .i64) 0, E_TCounter (default : TCounter), E_TLock (default : TLock), .nils])] : List AObj)) ev9.symm)) rfl rfl) trivial ?_
      refine S.nil ?_
      refine thenQ_n ?_
      refine AWp.seq ?_
      refine W.reg [0, 1, 2, 3, 4] rfl ?_
      refine S.qui 39 rfl rfl (fun _ => .loadP sz33 ag33 (lk 10 rfl rfl) rfl .nil (by first | rfl | omega) (ty_TField.fl v9) rfl) ?_
      refine S.sil 40 rfl rfl (fun _ hF => .move (lk 6 rfl rfl)) ?_
      refine S.effN rfl rfl (.nf (H2 := [.cells (E_TField v9), .cells (E_TField v9)]) (.storeP sz33 (lk 11 rfl rfl) (lk 1 rfl rfl) rfl (.refl _) rfl .nil (by first | rfl | omega) .nil (ty_TField.fl v9) (fl_st (flL_c (show flen _ = 1 from rfl) (flL_c (show flen _ = 1 from rfl) (flL_c (show flen _ = 1 from rfl) (flL_c (ty_TCounter.fl (default : TCounter)) (flL_c (ty_TLock.fl (default : TLock)) (flL_c (show flen _ = 1 from rfl) flL_nil))))))) rfl) rfl rfl) trivial ?_
      refine S.sil 9 rfl rfl (fun _ hF => .assign (lk 0 rfl rfl)) ?_
      refine S.sil 10 rfl rfl (fun _ hF => .assign cI) ?_
      refine S.nil ?_
      refine thenQ_n ?_
      refine AWp.prune (.eq (lk 0 rfl rfl) rfl (.eq (lk 1 rfl rfl) rfl (.eq (lk 13 rfl rfl) rfl .nil))) ?_
      refine AWp.ret ?_
      refine endF_wk (Wk.freeze 1 rfl rfl (.same (lk 0 rfl rfl) (.same (lk 1 rfl rfl) (.cons (lk 2 rfl rfl) rfl (.ptr .nil (by first | rfl | omega)) .nil))) (.refl _)) ?_
      obtain rfl := h.ret
      exact endFN rfl (Wk.selS [] .nil rfl (SelE.leaf (lk 2 rfl rfl) rfl (.refl _) (fun m => (lt_cptr (ty_TField.lt _ _))) (SelE.leaf (lk 1 rfl rfl) rfl (.refl _) (fun m => ((TyOk.int .i64).lt _ _)) (SelE.leaf (lk 0 rfl rfl) rfl (.refl _) (fun m => ((TyOk.int .i64).lt _ _)) .nil))) .nil) (.cons (.cellC sz33 ag33 (lk 0 rfl rfl) (ty_TField.fl _) rfl) (.cons (.tmp (lk 1 rfl rfl) rfl) (.cons (.tmp (lk 2 rfl rfl) rfl) .nil))) rfl rfl rfl
theorem C_vec_Right {a1 : Vector Int 16} {r : Bool} (h : vec_Right a1 = some r) : PureC Pg 158 [E_A16_i64 a1] (V.bool r) := by
  refine PureC.ofF (CallSpec.of_bodyF 17 0 fn158 rfl rfl rfl (Nat.le_of_ble_eq_true rfl) ?_) (ltL_c (ty_A16_i64.lt _ _) ltL_nil) (TyOk.bool.lt _ _)
  replace h := Ok.of h
  unfold vec_Right at h
  refine AWp.seq ?_
  refine W.reg [0, 1] rfl ?_
  refine S.eff 1 rfl rfl (.nf (v2 := .ptr 0 [] 0) (H2 := [.cells (E_A16_i64 a1)]) (.box (lk 0 rfl rfl) rfl) rfl rfl) trivial ?_
  refine S.sil 2 rfl rfl (fun _ hF => .assign cB) ?_
  refine S.nil ?_
  refine thenQ_n ?_
  refine AWp.wk (Wk.freeze 0 rfl rfl (.same (lk 0 rfl rfl) (.cons (lk 1 rfl rfl) rfl (.ptr .nil (by first | rfl | omega)) .nil)) (.refl _)) ?_
  refine AWp.seq ?_
  refine AWp.seq ?_
  refine W.reg [0, 1] rfl ?_
  refine S.sil 5 rfl rfl (fun _ hF => .loadC sz23 ag23 (lk 1 rfl rfl) (ty_A16_i64.fl a1) rfl) ?_
  refine S.sil 6 rfl rfl (fun _ hF => .move cI) ?_
  refine S.nil ?_
  refine thenQ_n ?_
  refine AWp.cutL (fun x4 => ⟨[(2, V.bool false)], []⟩) nc_then h (fun q2 hq2 h => ?_) (fun x4 h => ?_)
  · refine AWp.block ?_
    refine AWp.loopT (fun s3 => ⟨[(6, (V.int .i64) s3), (5, E_A16_i64 a1), (2, V.bool false)], []⟩) hq2 (Wk.selS [] (by decide) rfl (SelE.leaf (lk 0 rfl rfl) rfl (.refl _) (fun m => ((TyOk.int .i64).lt _ _)) (SelE.leaf (lk 1 rfl rfl) rfl (.refl _) (fun m => (ty_A16_i64.lt _ _)) (SelE.leaf (lk 2 rfl rfl) rfl (.refl _) (fun m => (TyOk.bool.lt _ _)) .nil))) .nil) (fun _ s3 h2 => ?_)
    rw [vec_Right_L1] at h2
    refine AWp.seq ?_
    refine W.reg [0] rfl ?_
    refine S.sil 7 rfl rfl (fun _ hF => .lss (lk 0 rfl rfl) cI) ?_
    refine S.nil ?_
    refine thenQ_n ?_
    refine AWp.seq ?_
    refine AWp.condM (lk 0 rfl rfl) h2 (fun c1 h2 => ?_) (fun c1 h2 => ?_)
    · skip
      refine AWp.skip ?_
      refine thenQ_n ?_
      refine AWp.seq ?_
      refine AWp.block ?_
      refine AWp.seq ?_
      refine W.reg [0, 1] rfl ?_
      obtain ⟨k5, m5, h2⟩ := h2.bnd
      refine S.sil 8 rfl rfl (fun _ hF => .ixV arr23 (lk 2 rfl rfl) (lk 1 rfl rfl) m5 rfl) ?_
      refine S.sil 4 rfl rfl (fun _ hF => .assign (lk 0 rfl rfl)) ?_
      refine S.nil ?_
      refine thenQ_n ?_
      refine AWp.seq ?_
      refine W.reg [0, 1, 2, 3, 4, 5, 6] rfl ?_
      refine S.sil 9 rfl rfl (fun _ hF => .move (lk 0 rfl rfl)) ?_
      refine S.sil 10 rfl rfl (fun _ hF => .lss (lk 0 rfl rfl) cI) ?_
      refine S.sil 11 rfl rfl (fun _ hF => .move (lk 0 rfl rfl)) ?_
      refine S.gsil 12 2 11 false rfl rfl rfl (lk 0 rfl rfl) (fun hB _ hF => .move (lk 3 rfl rfl)) ?_
      obtain ⟨r6, m6, h2⟩ := h2.bnd
      refine S.gsil 13 2 11 false rfl rfl rfl (lk 1 rfl rfl) (fun hB _ hF => .callQ ent64 cF (.c (ifT hB (lk 0 rfl rfl)) (V.sub.refl _) .nil) (C_num_Is (gd_get m6 hB))) ?_
      refine S.gsil 14 2 11 false rfl rfl rfl (lk 2 rfl rfl) (fun hB _ hF => .not (ifT hB (lk 0 rfl rfl))) ?_
      refine S.sil 15 rfl rfl (fun _ hF => .pickOr (lk 3 rfl rfl) cB (fun h => ifT h (lk 0 rfl rfl))) ?_
      refine S.nil ?_
      refine thenQ_n ?_
      refine AWp.condM (lk 0 rfl rfl) h2 (fun c2 h2 => ?_) (fun c2 h2 => ?_)
      · skip
        refine AWp.seq ?_
        refine W.reg [0] rfl ?_
        refine S.sil 2 rfl rfl (fun _ hF => .assign cB) ?_
        refine S.nil ?_
        refine thenQ_n ?_
        refine AWp.ret ?_
        refine blockQ_r ?_
        refine thenQ_r ?_
        refine thenQ_r ?_
        refine blockQ_r ?_
        refine thenQ_r ?_
        refine thenQ_r ?_
        have h := Ok.inrq h h2.ret
        obtain rfl := h.ret
        exact endF1 rfl (Wk.selS [] .nil rfl (SelE.leaf (lk 0 rfl rfl) rfl (.refl _) (fun m => (TyOk.bool.lt _ _)) .nil) .nil) (.tmp (lk 0 rfl rfl) rfl) rfl rfl
      · skip
        refine AWp.skip ?_
        refine blockQ_n ?_
        refine thenQ_n ?_
        refine W.reg [0, 1] rfl ?_
        refine S.sil 16 rfl rfl (fun _ hF => .add (lk 10 rfl rfl) cI) ?_
        refine S.sil 6 rfl rfl (fun _ hF => .move (lk 0 rfl rfl)) ?_
        refine S.nil ?_
        refine thenQ_n ?_
        exact ⟨_, h2.ret, (Wk.selS [] (by decide) rfl (SelE.leaf (lk 0 rfl rfl) rfl (.refl _) (fun m => ((TyOk.int .i64).lt _ _)) (SelE.leaf (lk 13 rfl rfl) rfl (.refl _) (fun m => (ty_A16_i64.lt _ _)) (SelE.leaf (lk 14 rfl rfl) rfl (.refl _) (fun m => (TyOk.bool.lt _ _)) .nil))) .nil)⟩
    · skip
      refine AWp.exit ?_
      refine thenQ_x ?_
      refine thenQ_x ?_
      refine blockQ_x ?_
      refine thenQ_n ?_
      exact ⟨_, h2.ret, (Wk.selS [] (by decide) rfl (SelE.leaf (lk 3 rfl rfl) rfl (.refl _) (fun m => (TyOk.bool.lt _ _)) .nil) .nil)⟩
  · skip
    refine thenQ_n ?_
    refine AWp.seq ?_
    refine W.reg [0] rfl ?_
    refine S.sil 2 rfl rfl (fun _ hF => .assign cB) ?_
    refine S.nil ?_
    refine thenQ_n ?_
    refine AWp.ret ?_
    obtain rfl := h.ret
    exact endF1 rfl (Wk.selS [] .nil rfl (SelE.leaf (lk 0 rfl rfl) rfl (.refl _) (fun m => (TyOk.bool.lt _ _)) .nil) .nil) (.tmp (lk 0 rfl rfl) rfl) rfl rfl
theorem C_rights_Right {a1 : TRights} {r : Bool} (h : rights_Right a1 = some r) : PureC Pg 126 [E_TRights a1] (V.bool r) := by
  refine PureC.ofF (CallSpec.of_bodyF 31 0 fn126 rfl rfl rfl (Nat.le_of_ble_eq_true rfl) ?_) (ltL_c (ty_TRights.lt _ _) ltL_nil) (TyOk.bool.lt _ _)
  replace h := Ok.of h
  unfold rights_Right at h
  refine AWp.seq ?_
  refine W.reg [0, 1] rfl ?_
  refine S.eff 1 rfl rfl (.nf (v2 := .ptr 0 [] 0) (H2 := [.cells (E_TRights a1)]) (.box (lk 0 rfl rfl) rfl) rfl rfl) trivial ?_
  refine S.sil 2 rfl rfl (fun _ hF => .assign cB) ?_
  refine S.nil ?_
  refine thenQ_n ?_
  refine AWp.wk (Wk.freeze 0 rfl rfl (.same (lk 0 rfl rfl) (.cons (lk 1 rfl rfl) rfl (.ptr .nil (by first | rfl | omega)) .nil)) (.refl _)) ?_
  refine AWp.seq ?_
  refine AWp.seq ?_
  refine W.reg [0, 1, 2, 3, 4, 5, 6, 7, 8, 9] rfl ?_
  refine S.sil 5 rfl rfl (fun _ hF => .fieldAddrC lay26 rfl rfl (lk 1 rfl rfl) rfl flL_nil) ?_
  refine S.sil 6 rfl rfl (fun _ hF => .loadC sz23 ag23 (lk 0 rfl rfl) (ty_A16_i64.fl a1.Given) rfl) ?_
  obtain ⟨r2, m2, h⟩ := h.bnd
  refine S.sil 7 rfl rfl (fun _ hF => .callQ ent158 cF (.c (lk 0 rfl rfl) (V.sub.refl _) .nil) (C_vec_Right m2)) ?_
  refine S.sil 8 rfl rfl (fun _ hF => .not (lk 0 rfl rfl)) ?_
  refine S.sil 9 rfl rfl (fun _ hF => .move (lk 0 rfl rfl)) ?_
  refine S.gsil 10 4 9 false rfl rfl rfl (lk 0 rfl rfl) (fun hB _ hF => .fieldAddrC lay26 rfl rfl (lk 6 rfl rfl) rfl (flL_c (ty_A16_i64.fl a1.Given) flL_nil)) ?_
  refine S.gsil 11 4 9 false rfl rfl rfl (lk 1 rfl rfl) (fun hB _ hF => .loadC sz23 ag23 (ifT hB (lk 0 rfl rfl)) (ty_A16_i64.fl a1.Used) rfl) ?_
  obtain ⟨r3, m3, h⟩ := h.bnd
  refine S.gsil 12 4 9 false rfl rfl rfl (lk 2 rfl rfl) (fun hB _ hF => .callQ ent158 cF (.c (ifT hB (lk 0 rfl rfl)) (V.sub.refl _) .nil) (C_vec_Right (gd_get m3 hB))) ?_
  refine S.gsil 13 4 9 false rfl rfl rfl (lk 3 rfl rfl) (fun hB _ hF => .not (ifT hB (lk 0 rfl rfl))) ?_
  refine S.sil 14 rfl rfl (fun _ hF => .pickOr (lk 4 rfl rfl) cB (fun h => ifT h (lk 0 rfl rfl))) ?_
  refine S.nil ?_
  refine thenQ_n ?_
  refine AWp.condM (lk 0 rfl rfl) h (fun c1 h => ?_) (fun c1 h => ?_)
  · skip
    refine AWp.seq ?_
    refine W.reg [0] rfl ?_
    refine S.sil 2 rfl rfl (fun _ hF => .assign cB) ?_
    refine S.nil ?_
    refine thenQ_n ?_
    refine AWp.prune (.eq (lk 0 rfl rfl) rfl (.eq (lk 12 rfl rfl) rfl .nil)) ?_
    refine AWp.ret ?_
    refine thenQ_r ?_
    obtain rfl := h.ret
    exact endF1 rfl (Wk.selS [] .nil rfl (SelE.leaf (lk 0 rfl rfl) rfl (.refl _) (fun m => (TyOk.bool.lt _ _)) .nil) .nil) (.tmp (lk 0 rfl rfl) rfl) rfl rfl
  · skip
    refine AWp.skip ?_
    refine thenQ_n ?_
    refine AWp.prune (.eq (lk 10 rfl rfl) rfl (.eq (lk 11 rfl rfl) rfl .nil)) ?_
    refine AWp.seq ?_
    refine AWp.seq ?_
    refine W.reg [0, 1, 2] rfl ?_
    refine S.sil 15 rfl rfl (fun _ hF => .fieldAddrC lay26 rfl rfl (lk 1 rfl rfl) rfl (flL_c (ty_A16_i64.fl a1.Given) (flL_c (ty_A16_i64.fl a1.Used) flL_nil))) ?_
    refine S.sil 16 rfl rfl (fun _ hF => .loadC sz24 ag24 (lk 0 rfl rfl) (ty_A16_A16_i64.fl a1.Moved) rfl) ?_
    refine S.sil 17 rfl rfl (fun _ hF => .move cI) ?_
    refine S.nil ?_
    refine thenQ_n ?_
    refine AWp.cutL (fun x6 => ⟨[(2, V.bool false)], []⟩) nc_then h (fun q4 hq4 h => ?_) (fun x6 h => ?_)
    · refine AWp.block ?_
      refine AWp.loopT (fun s5 => ⟨[(17, (V.int .i64) s5), (16, E_A16_A16_i64 a1.Moved), (2, V.bool false)], []⟩) hq4 (Wk.selS [] (by decide) rfl (SelE.leaf (lk 0 rfl rfl) rfl (.refl _) (fun m => ((TyOk.int .i64).lt _ _)) (SelE.leaf (lk 1 rfl rfl) rfl (.refl _) (fun m => (ty_A16_A16_i64.lt _ _)) (SelE.leaf (lk 3 rfl rfl) rfl (.refl _) (fun m => (TyOk.bool.lt _ _)) .nil))) .nil) (fun _ s5 h4 => ?_)
      rw [rights_Right_L1] at h4
      refine AWp.seq ?_
      refine W.reg [0] rfl ?_
      refine S.sil 18 rfl rfl (fun _ hF => .lss (lk 0 rfl rfl) cI) ?_
      refine S.nil ?_
      refine thenQ_n ?_
      refine AWp.seq ?_
      refine AWp.condM (lk 0 rfl rfl) h4 (fun c2 h4 => ?_) (fun c2 h4 => ?_)
      · skip
        refine AWp.skip ?_
        refine thenQ_n ?_
        refine AWp.seq ?_
        refine AWp.block ?_
        refine AWp.seq ?_
        refine W.reg [0, 1, 2, 3, 4] rfl ?_
        refine S.sil 19 rfl rfl (fun _ hF => .move (lk 1 rfl rfl)) ?_
        obtain ⟨k7, m7, h4⟩ := h4.bnd
        refine S.sil 20 rfl rfl (fun _ hF => .ixV arr24 (lk 3 rfl rfl) (lk 2 rfl rfl) m7 rfl) ?_
        refine S.eff 4 rfl rfl (.nf (v2 := .ptr 0 [] 0) (H2 := [.cells (E_A16_i64 (default : Vector Int 16))]) (.alloc zv23) rfl rfl) trivial ?_
        refine S.sil 3 rfl rfl (fun _ hF => .assign (lk 2 rfl rfl)) ?_
        obtain ⟨v8, ev8, h4⟩ := h4.nam
        refine S.effN rfl rfl (.nf (H2 := [.cells (E_A16_i64 v8)]) (.storeP sz23 (lk 1 rfl rfl) (lk 2 rfl rfl) rfl (.refl _) rfl .nil (by first | rfl | omega) .nil (ty_A16_i64.fl (a1.Moved.get k7)) (ty_A16_i64.fl (default : Vector Int 16)) (congrArg (fun z => ([AObj.cells (E_A16_i64 z)] : List AObj)) ev8.symm)) rfl rfl) trivial ?_
        refine S.nil ?_
        refine thenQ_n ?_
        refine AWp.wk (Wk.freeze 0 rfl rfl (.same (lk 0 rfl rfl) (.cons (lk 1 rfl rfl) rfl (.ptr .nil (by first | rfl | omega)) (.same (lk 2 rfl rfl) (.same (lk 3 rfl rfl) (.same (lk 4 rfl rfl) (.same (lk 5 rfl rfl) (.same (lk 6 rfl rfl) (.same (lk 7 rfl rfl) .nil)))))))) (.refl _)) ?_
        refine AWp.seq ?_
        refine W.reg [0, 1, 2, 3, 4, 5, 6, 7, 8] rfl ?_
        refine S.sil 21 rfl rfl (fun _ hF => .loadC sz23 ag23 (lk 1 rfl rfl) (ty_A16_i64.fl v8) rfl) ?_
        obtain ⟨r9, m9, h4⟩ := h4.bnd
        refine S.sil 22 rfl rfl (fun _ hF => .callQ ent158 cF (.c (lk 0 rfl rfl) (V.sub.refl _) .nil) (C_vec_Right m9)) ?_
        refine S.sil 23 rfl rfl (fun _ hF => .not (lk 0 rfl rfl)) ?_
        refine S.sil 24 rfl rfl (fun _ hF => .move (lk 0 rfl rfl)) ?_
        refine S.gsil 25 3 24 false rfl rfl rfl (lk 0 rfl rfl) (fun hB _ hF => .move (lk 4 rfl rfl)) ?_
        obtain ⟨k10, m10, h4⟩ := h4.bnd
        refine S.gsil 26 3 24 false rfl rfl rfl (lk 1 rfl rfl) (fun hB _ hF => .ixC arr23 (lk 6 rfl rfl) (ifT hB (lk 0 rfl rfl)) (gd_get m10 hB)) ?_
        refine S.gsil 27 3 24 false rfl rfl rfl (lk 2 rfl rfl) (fun hB _ hF => .loadC sz3 ag3 (ifT hB (lk 0 rfl rfl)) rfl rfl) ?_
        refine S.gsil 28 3 24 false rfl rfl rfl (lk 3 rfl rfl) (fun hB _ hF => .neq (ifT hB (lk 0 rfl rfl)) cI) ?_
        refine S.sil 29 rfl rfl (fun _ hF => .pickOr (lk 4 rfl rfl) cB (fun h => ifT h (lk 0 rfl rfl))) ?_
        refine S.nil ?_
        refine thenQ_n ?_
        refine AWp.condM (lk 0 rfl rfl) h4 (fun c3 h4 => ?_) (fun c3 h4 => ?_)
        · skip
          refine AWp.seq ?_
          refine W.reg [0] rfl ?_
          refine S.sil 2 rfl rfl (fun _ hF => .assign cB) ?_
          refine S.nil ?_
          refine thenQ_n ?_
          refine AWp.ret ?_
          refine blockQ_r ?_
          refine thenQ_r ?_
          refine thenQ_r ?_
          refine blockQ_r ?_
          refine thenQ_r ?_
          refine thenQ_r ?_
          have h := Ok.inrq h h4.ret
          obtain rfl := h.ret
          exact endF1 rfl (Wk.selS [] .nil rfl (SelE.leaf (lk 0 rfl rfl) rfl (.refl _) (fun m => (TyOk.bool.lt _ _)) .nil) .nil) (.tmp (lk 0 rfl rfl) rfl) rfl rfl
        · skip
          refine AWp.skip ?_
          refine blockQ_n ?_
          refine thenQ_n ?_
          refine W.reg [0, 1] rfl ?_
          refine S.sil 30 rfl rfl (fun _ hF => .add (lk 14 rfl rfl) cI) ?_
          refine S.sil 17 rfl rfl (fun _ hF => .move (lk 0 rfl rfl)) ?_
          refine S.nil ?_
          refine thenQ_n ?_
          exact ⟨_, h4.ret, (Wk.selS [] (by decide) rfl (SelE.leaf (lk 0 rfl rfl) rfl (.refl _) (fun m => ((TyOk.int .i64).lt _ _)) (SelE.leaf (lk 17 rfl rfl) rfl (.refl _) (fun m => (ty_A16_A16_i64.lt _ _)) (SelE.leaf (lk 18 rfl rfl) rfl (.refl _) (fun m => (TyOk.bool.lt _ _)) .nil))) .nil)⟩
      · skip
        refine AWp.exit ?_
        refine thenQ_x ?_
        refine thenQ_x ?_
        refine blockQ_x ?_
        refine thenQ_n ?_
        exact ⟨_, h4.ret, (Wk.selS [] (by decide) rfl (SelE.leaf (lk 3 rfl rfl) rfl (.refl _) (fun m => (TyOk.bool.lt _ _)) .nil) .nil)⟩
    · skip
      refine thenQ_n ?_
      refine AWp.seq ?_
      refine W.reg [0] rfl ?_
      refine S.sil 2 rfl rfl (fun _ hF => .assign cB) ?_
      refine S.nil ?_
      refine thenQ_n ?_
      refine AWp.ret ?_
      obtain rfl := h.ret
      exact endF1 rfl (Wk.selS [] .nil rfl (SelE.leaf (lk 0 rfl rfl) rfl (.refl _) (fun m => (TyOk.bool.lt _ _)) .nil) .nil) (.tmp (lk 0 rfl rfl) rfl) rfl rfl
theorem C_vec_Sum {a1 : Vector Int 16} {r : Int × Int} (h : vec_Sum a1 = some r) : PureC Pg 159 [E_A16_i64 a1] (.tup [(V.int .i64) r.1, (V.int .i64) r.2]) := by
  refine PureC.ofF (CallSpec.of_bodyF 8 0 fn159 rfl rfl rfl (Nat.le_of_ble_eq_true rfl) ?_) (ltL_c (ty_A16_i64.lt _ _) ltL_nil) (lt_tup (ltL_c ((TyOk.int .i64).lt _ _) (ltL_c ((TyOk.int .i64).lt _ _) ltL_nil)))
  replace h := Ok.of h
  unfold vec_Sum at h
  refine AWp.seq ?_
  refine W.reg [0, 1, 2] rfl ?_
  refine S.eff 1 rfl rfl (.nf (v2 := .ptr 0 [] 0) (H2 := [.cells (E_A16_i64 a1)]) (.box (lk 0 rfl rfl) rfl) rfl rfl) trivial ?_
  refine S.sil 2 rfl rfl (fun _ hF => .assign cI) ?_
  refine S.sil 3 rfl rfl (fun _ hF => .assign cI) ?_
  refine S.nil ?_
  refine thenQ_n ?_
  refine AWp.wk (Wk.freeze 0 rfl rfl (.same (lk 0 rfl rfl) (.same (lk 1 rfl rfl) (.cons (lk 2 rfl rfl) rfl (.ptr .nil (by first | rfl | omega)) .nil))) (.refl _)) ?_
  refine AWp.seq ?_
  refine W.reg [0, 1, 2, 3, 4, 5] rfl ?_
  refine S.sil 4 rfl rfl (fun _ hF => .sliceArr arr23 (lk 2 rfl rfl) (by simp)) ?_
  obtain ⟨r2, m2, h⟩ := h.bnd
  refine S.sil 5 rfl rfl (fun _ hF => .callQ ent87 cF (.c (lk 0 rfl rfl) (vsub rfl (.forget _ _ _)) .nil) (C_num_Sum m2)) ?_
  refine S.sil 6 rfl rfl (fun _ hF => .extract (lk 0 rfl rfl) rfl) ?_
  refine S.sil 7 rfl rfl (fun _ hF => .extract (lk 1 rfl rfl) rfl) ?_
  refine S.sil 2 rfl rfl (fun _ hF => .assign (lk 1 rfl rfl)) ?_
  refine S.sil 3 rfl rfl (fun _ hF => .assign (lk 1 rfl rfl)) ?_
  refine S.nil ?_
  refine thenQ_n ?_
  refine AWp.ret ?_
  obtain rfl := h.ret
  exact endFN rfl (Wk.selS [] .nil rfl (SelE.leaf (lk 1 rfl rfl) rfl (.refl _) (fun m => ((TyOk.int .i64).lt _ _)) (SelE.leaf (lk 0 rfl rfl) rfl (.refl _) (fun m => ((TyOk.int .i64).lt _ _)) .nil)) .nil) (.cons (.tmp (lk 0 rfl rfl) rfl) (.cons (.tmp (lk 1 rfl rfl) rfl) .nil)) rfl rfl rfl
theorem C_counter_given {a1 : TRights} {a2 : TRights} {a3 : Int} {r : Bool} (h : counter_given a1 a2 a3 = some r) : PureC Pg 127 [E_TRights a1, E_TRights a2, (V.int .i64) a3] (V.bool r) := by
  refine PureC.ofF (CallSpec.of_bodyF 46 0 fn127 rfl rfl rfl (Nat.le_of_ble_eq_true rfl) ?_) (ltL_c (ty_TRights.lt _ _) (ltL_c (ty_TRights.lt _ _) (ltL_c ((TyOk.int .i64).lt _ _) ltL_nil))) (TyOk.bool.lt _ _)
  replace h := Ok.of h
  unfold counter_given at h
  refine AWp.seq ?_
  refine W.reg [0, 1, 2] rfl ?_
  refine S.eff 3 rfl rfl (.nf (v2 := .ptr 0 [] 0) (H2 := [.cells (E_TRights a1)]) (.box (lk 0 rfl rfl) rfl) rfl rfl) trivial ?_
  refine S.eff 4 rfl rfl (.nf (v2 := .ptr 1 [] 0) (H2 := [.cells (E_TRights a1), .cells (E_TRights a2)]) (.box (lk 2 rfl rfl) rfl) rfl rfl) trivial ?_
  refine S.sil 6 rfl rfl (fun _ hF => .assign cB) ?_
  refine S.nil ?_
  refine thenQ_n ?_
  refine AWp.wk (Wk.freeze 0 rfl rfl (.same (lk 0 rfl rfl) (.same (lk 1 rfl rfl) (.cons (lk 2 rfl rfl) rfl (.ptr .nil (by first | rfl | omega)) (.same (lk 5 rfl rfl) .nil)))) (.refl _)) ?_
  refine AWp.wk (Wk.freeze 1 rfl rfl (.same (lk 0 rfl rfl) (.cons (lk 1 rfl rfl) rfl (.ptr .nil (by first | rfl | omega)) (.same (lk 2 rfl rfl) (.same (lk 3 rfl rfl) .nil)))) (.refl _)) ?_
  refine AWp.seq ?_
  refine W.reg [0, 1, 2, 3, 4, 5, 6, 7] rfl ?_
  refine S.sil 14 rfl rfl (fun _ hF => .fieldAddrC lay26 rfl rfl (lk 2 rfl rfl) rfl flL_nil) ?_
  refine S.sil 15 rfl rfl (fun _ hF => .loadC sz23 ag23 (lk 0 rfl rfl) (ty_A16_i64.fl a1.Given) rfl) ?_
  obtain ⟨r4, m4, h⟩ := h.bnd
  refine S.sil 16 rfl rfl (fun _ hF => .callQ ent159 cF (.c (lk 0 rfl rfl) (V.sub.refl _) .nil) (C_vec_Sum m4)) ?_
  refine S.sil 13 rfl rfl (fun _ hF => .move (lk 0 rfl rfl)) ?_
  refine S.sil 17 rfl rfl (fun _ hF => .extract (lk 0 rfl rfl) rfl) ?_
  refine S.sil 18 rfl rfl (fun _ hF => .extract (lk 1 rfl rfl) rfl) ?_
  refine S.sil 7 rfl rfl (fun _ hF => .assign (lk 1 rfl rfl)) ?_
  refine S.sil 8 rfl rfl (fun _ hF => .assign (lk 1 rfl rfl)) ?_
  refine S.nil ?_
  refine thenQ_n ?_
  refine AWp.seq ?_
  refine W.reg [0, 1, 2, 3, 4, 5, 6, 7] rfl ?_
  refine S.sil 20 rfl rfl (fun _ hF => .fieldAddrC lay26 rfl rfl (lk 9 rfl rfl) rfl (flL_c (ty_A16_i64.fl a2.Given) flL_nil)) ?_
  refine S.sil 21 rfl rfl (fun _ hF => .loadC sz23 ag23 (lk 0 rfl rfl) (ty_A16_i64.fl a2.Used) rfl) ?_
  obtain ⟨r5, m5, h⟩ := h.bnd
  refine S.sil 22 rfl rfl (fun _ hF => .callQ ent159 cF (.c (lk 0 rfl rfl) (V.sub.refl _) .nil) (C_vec_Sum m5)) ?_
  refine S.sil 19 rfl rfl (fun _ hF => .move (lk 0 rfl rfl)) ?_
  refine S.sil 23 rfl rfl (fun _ hF => .extract (lk 0 rfl rfl) rfl) ?_
  refine S.sil 24 rfl rfl (fun _ hF => .extract (lk 1 rfl rfl) rfl) ?_
  refine S.sil 9 rfl rfl (fun _ hF => .assign (lk 1 rfl rfl)) ?_
  refine S.sil 10 rfl rfl (fun _ hF => .assign (lk 1 rfl rfl)) ?_
  refine S.nil ?_
  refine thenQ_n ?_
  refine AWp.prune (.eq (lk 0 rfl rfl) rfl (.eq (lk 1 rfl rfl) rfl (.eq (lk 8 rfl rfl) rfl (.eq (lk 9 rfl rfl) rfl (.eq (lk 16 rfl rfl) rfl (.eq (lk 19 rfl rfl) rfl .nil)))))) ?_
  refine AWp.seq ?_
  refine W.reg [0, 1, 2, 3, 4, 5, 6, 7] rfl ?_
  refine S.sil 26 rfl rfl (fun _ hF => .move (lk 5 rfl rfl)) ?_
  refine S.sil 27 rfl rfl (fun _ hF => .move (lk 2 rfl rfl)) ?_
  obtain ⟨r6, m6, h⟩ := h.bnd
  refine S.sil 28 rfl rfl (fun _ hF => .callQ ent123 cF (.c (lk 1 rfl rfl) (V.sub.refl _) (.c (lk 0 rfl rfl) (V.sub.refl _) .nil)) (C_num_Add m6)) ?_
  refine S.sil 25 rfl rfl (fun _ hF => .move (lk 0 rfl rfl)) ?_
  refine S.sil 29 rfl rfl (fun _ hF => .extract (lk 0 rfl rfl) rfl) ?_
  refine S.sil 30 rfl rfl (fun _ hF => .extract (lk 1 rfl rfl) rfl) ?_
  refine S.sil 11 rfl rfl (fun _ hF => .assign (lk 1 rfl rfl)) ?_
  refine S.sil 12 rfl rfl (fun _ hF => .assign (lk 1 rfl rfl)) ?_
  refine S.nil ?_
  refine thenQ_n ?_
  refine AWp.seq ?_
  refine W.reg [0, 1, 2, 3, 4, 5, 6, 7, 8, 9, 10, 11, 12, 13, 14, 15] rfl ?_
  refine S.sil 31 rfl rfl (fun _ hF => .move (lk 10 rfl rfl)) ?_
  refine S.sil 32 rfl rfl (fun _ hF => .eql (lk 0 rfl rfl) cI) ?_
  refine S.sil 33 rfl rfl (fun _ hF => .move (lk 0 rfl rfl)) ?_
  refine S.gsil 34 2 33 true rfl rfl rfl (lk 0 rfl rfl) (fun hB _ hF => .move (lk 11 rfl rfl)) ?_
  refine S.gsil 35 2 33 true rfl rfl rfl (lk 1 rfl rfl) (fun hB _ hF => .eql (ifT hB (lk 0 rfl rfl)) cI) ?_
  refine S.sil 36 rfl rfl (fun _ hF => .pickAnd (lk 2 rfl rfl) (fun h => ifT h (lk 0 rfl rfl)) cB) ?_
  refine S.sil 37 rfl rfl (fun _ hF => .move (lk 0 rfl rfl)) ?_
  refine S.gsil 38 6 37 true rfl rfl rfl (lk 0 rfl rfl) (fun hB _ hF => .move (lk 7 rfl rfl)) ?_
  refine S.gsil 39 6 37 true rfl rfl rfl (lk 1 rfl rfl) (fun hB _ hF => .eql (ifT hB (lk 0 rfl rfl)) cI) ?_
  refine S.sil 40 rfl rfl (fun _ hF => .pickAnd (lk 2 rfl rfl) (fun h => ifT h (lk 0 rfl rfl)) cB) ?_
  refine S.sil 41 rfl rfl (fun _ hF => .move (lk 0 rfl rfl)) ?_
  refine S.gsil 42 10 41 true rfl rfl rfl (lk 0 rfl rfl) (fun hB _ hF => .move (lk 22 rfl rfl)) ?_
  refine S.gsil 43 10 41 true rfl rfl rfl (lk 1 rfl rfl) (fun hB _ hF => .move (lk 13 rfl rfl)) ?_
  refine S.gsil 44 10 41 true rfl rfl rfl (lk 2 rfl rfl) (fun hB _ hF => .eql (ifT hB (lk 1 rfl rfl)) (ifT hB (lk 0 rfl rfl))) ?_
  obtain ⟨v7, ev7, h⟩ := h.nam
  refine S.sil 45 rfl rfl (fun _ hF => .nv (.pickAnd (lk 3 rfl rfl) (fun h => ifT h (lk 0 rfl rfl)) cB) (congrArg V.bool ev7.symm)) ?_
  refine S.sil 6 rfl rfl (fun _ hF => .assign (lk 0 rfl rfl)) ?_
  refine S.nil ?_
  refine thenQ_n ?_
  refine AWp.prune (.eq (lk 0 rfl rfl) rfl .nil) ?_
  refine AWp.ret ?_
  obtain rfl := h.ret
  exact endF1 rfl (Wk.selS [] .nil rfl (SelE.leaf (lk 0 rfl rfl) rfl (.refl _) (fun m => (TyOk.bool.lt _ _)) .nil) .nil) (.tmp (lk 0 rfl rfl) rfl) rfl rfl
theorem C_counter_Right {a1 : TCounter} {r : Bool} (h : counter_Right a1 = some r) : PureC Pg 75 [E_TCounter a1] (V.bool r) := by
  refine PureC.ofF (CallSpec.of_bodyF 65 0 fn75 rfl rfl rfl (Nat.le_of_ble_eq_true rfl) ?_) (ltL_c (ty_TCounter.lt _ _) ltL_nil) (TyOk.bool.lt _ _)
  replace h := Ok.of h
  unfold counter_Right at h
  refine AWp.seq ?_
  refine W.reg [0, 1] rfl ?_
  refine S.eff 1 rfl rfl (.nf (v2 := .ptr 0 [] 0) (H2 := [.cells (E_TCounter a1)]) (.box (lk 0 rfl rfl) rfl) rfl rfl) trivial ?_
  refine S.sil 2 rfl rfl (fun _ hF => .assign cB) ?_
  refine S.nil ?_
  refine thenQ_n ?_
  refine AWp.wk (Wk.freeze 0 rfl rfl (.same (lk 0 rfl rfl) (.cons (lk 1 rfl rfl) rfl (.ptr .nil (by first | rfl | omega)) .nil)) (.refl _)) ?_
  refine AWp.seq ?_
  refine AWp.seq ?_
  refine W.reg [0, 1, 2, 3, 4, 5, 6, 7, 8, 9, 10, 11, 12, 13, 14, 15, 16, 17, 18, 19, 20, 21, 22, 23, 24, 25, 26, 27, 28, 29] rfl ?_
  refine S.sil 3 rfl rfl (fun _ hF => .fieldAddrC lay28 rfl rfl (lk 1 rfl rfl) rfl flL_nil) ?_
  refine S.sil 4 rfl rfl (fun _ hF => .loadC sz3 ag3 (lk 0 rfl rfl) rfl rfl) ?_
  obtain ⟨r2, m2, h⟩ := h.bnd
  refine S.sil 5 rfl rfl (fun _ hF => .callQ ent64 cF (.c (lk 0 rfl rfl) (V.sub.refl _) .nil) (C_num_Is m2)) ?_
  refine S.sil 6 rfl rfl (fun _ hF => .not (lk 0 rfl rfl)) ?_
  refine S.sil 7 rfl rfl (fun _ hF => .move (lk 0 rfl rfl)) ?_
  refine S.gsil 8 4 7 false rfl rfl rfl (lk 0 rfl rfl) (fun hB _ hF => .fieldAddrC lay28 rfl rfl (lk 6 rfl rfl) rfl (flL_c (show flen _ = 1 from rfl) flL_nil)) ?_
  refine S.gsil 9 4 7 false rfl rfl rfl (lk 1 rfl rfl) (fun hB _ hF => .loadC sz3 ag3 (ifT hB (lk 0 rfl rfl)) rfl rfl) ?_
  obtain ⟨r3, m3, h⟩ := h.bnd
  refine S.gsil 10 4 7 false rfl rfl rfl (lk 2 rfl rfl) (fun hB _ hF => .callQ ent64 cF (.c (ifT hB (lk 0 rfl rfl)) (V.sub.refl _) .nil) (C_num_Is (gd_get m3 hB))) ?_
  refine S.gsil 11 4 7 false rfl rfl rfl (lk 3 rfl rfl) (fun hB _ hF => .not (ifT hB (lk 0 rfl rfl))) ?_
  refine S.sil 12 rfl rfl (fun _ hF => .pickOr (lk 4 rfl rfl) cB (fun h => ifT h (lk 0 rfl rfl))) ?_
  refine S.sil 13 rfl rfl (fun _ hF => .move (lk 0 rfl rfl)) ?_
  refine S.gsil 14 10 13 false rfl rfl rfl (lk 0 rfl rfl) (fun hB _ hF => .fieldAddrC lay28 rfl rfl (lk 12 rfl rfl) rfl (flL_c (show flen _ = 1 from rfl) (flL_c (show flen _ = 1 from rfl) flL_nil))) ?_
  refine S.gsil 15 10 13 false rfl rfl rfl (lk 1 rfl rfl) (fun hB _ hF => .loadC sz3 ag3 (ifT hB (lk 0 rfl rfl)) rfl rfl) ?_
  obtain ⟨r4, m4, h⟩ := h.bnd
  refine S.gsil 16 10 13 false rfl rfl rfl (lk 2 rfl rfl) (fun hB _ hF => .callQ ent64 cF (.c (ifT hB (lk 0 rfl rfl)) (V.sub.refl _) .nil) (C_num_Is (gd_get m4 hB))) ?_
  refine S.gsil 17 10 13 false rfl rfl rfl (lk 3 rfl rfl) (fun hB _ hF => .not (ifT hB (lk 0 rfl rfl))) ?_
  refine S.sil 18 rfl rfl (fun _ hF => .pickOr (lk 4 rfl rfl) cB (fun h => ifT h (lk 0 rfl rfl))) ?_
  refine S.sil 19 rfl rfl (fun _ hF => .move (lk 0 rfl rfl)) ?_
  refine S.gsil 20 16 19 false rfl rfl rfl (lk 0 rfl rfl) (fun hB _ hF => .fieldAddrC lay28 rfl rfl (lk 18 rfl rfl) rfl (flL_c (show flen _ = 1 from rfl) flL_nil)) ?_
  refine S.gsil 21 16 19 false rfl rfl rfl (lk 1 rfl rfl) (fun hB _ hF => .loadC sz3 ag3 (ifT hB (lk 0 rfl rfl)) rfl rfl) ?_
  refine S.gsil 22 16 19 false rfl rfl rfl (lk 2 rfl rfl) (fun hB _ hF => .fieldAddrC lay28 rfl rfl (lk 20 rfl rfl) rfl flL_nil) ?_
  refine S.gsil 23 16 19 false rfl rfl rfl (lk 3 rfl rfl) (fun hB _ hF => .loadC sz3 ag3 (ifT hB (lk 0 rfl rfl)) rfl rfl) ?_
  refine S.gsil 24 16 19 false rfl rfl rfl (lk 4 rfl rfl) (fun hB _ hF => .gtr (ifT hB (lk 2 rfl rfl)) (ifT hB (lk 0 rfl rfl))) ?_
  refine S.sil 25 rfl rfl (fun _ hF => .pickOr (lk 5 rfl rfl) cB (fun h => ifT h (lk 0 rfl rfl))) ?_
  refine S.sil 26 rfl rfl (fun _ hF => .move (lk 0 rfl rfl)) ?_
  refine S.gsil 27 23 26 false rfl rfl rfl (lk 0 rfl rfl) (fun hB _ hF => .fieldAddrC lay28 rfl rfl (lk 25 rfl rfl) rfl flL_nil) ?_
  refine S.gsil 28 23 26 false rfl rfl rfl (lk 1 rfl rfl) (fun hB _ hF => .loadC sz3 ag3 (ifT hB (lk 0 rfl rfl)) rfl rfl) ?_
  refine S.gsil 29 23 26 false rfl rfl rfl (lk 2 rfl rfl) (fun hB _ hF => .fieldAddrC lay28 rfl rfl (lk 27 rfl rfl) rfl (flL_c (show flen _ = 1 from rfl) (flL_c (show flen _ = 1 from rfl) flL_nil))) ?_
  refine S.gsil 30 23 26 false rfl rfl rfl (lk 3 rfl rfl) (fun hB _ hF => .loadC sz3 ag3 (ifT hB (lk 0 rfl rfl)) rfl rfl) ?_
  refine S.gsil 31 23 26 false rfl rfl rfl (lk 4 rfl rfl) (fun hB _ hF => .gtr (ifT hB (lk 2 rfl rfl)) (ifT hB (lk 0 rfl rfl))) ?_
  obtain ⟨v5, ev5, h⟩ := h.nam
  refine S.sil 32 rfl rfl (fun _ hF => .nv (.pickOr (lk 5 rfl rfl) cB (fun h => ifT h (lk 0 rfl rfl))) (congrArg V.bool ev5.symm)) ?_
  refine S.nil ?_
  refine thenQ_n ?_
  refine AWp.prune (.eq (lk 0 rfl rfl) rfl (.eq (lk 30 rfl rfl) rfl (.eq (lk 31 rfl rfl) rfl .nil))) ?_
  refine AWp.condM (lk 0 rfl rfl) h (fun c1 h => ?_) (fun c1 h => ?_)
  · skip
    refine AWp.seq ?_
    refine W.reg [0] rfl ?_
    refine S.sil 2 rfl rfl (fun _ hF => .assign cB) ?_
    refine S.nil ?_
    refine thenQ_n ?_
    refine AWp.ret ?_
    refine thenQ_r ?_
    obtain rfl := h.ret
    exact endF1 rfl (Wk.selS [] .nil rfl (SelE.leaf (lk 0 rfl rfl) rfl (.refl _) (fun m => (TyOk.bool.lt _ _)) .nil) .nil) (.tmp (lk 0 rfl rfl) rfl) rfl rfl
  · skip
    refine AWp.skip ?_
    refine thenQ_n ?_
    refine AWp.seq ?_
    refine W.reg [0, 1, 2, 3, 4, 5, 6, 7, 8, 9, 10, 11, 12, 13, 14, 15, 16, 17, 18, 19, 20, 21, 22, 23, 24, 25, 26, 27, 28, 29, 30, 31, 32] rfl ?_
    refine S.sil 33 rfl rfl (fun _ hF => .fieldAddrC lay28 rfl rfl (lk 2 rfl rfl) rfl (flL_c (show flen _ = 1 from rfl) (flL_c (show flen _ = 1 from rfl) (flL_c (show flen _ = 1 from rfl) flL_nil)))) ?_
    refine S.sil 34 rfl rfl (fun _ hF => .loadC sz26 ag26 (lk 0 rfl rfl) (ty_TRights.fl a1.Down) rfl) ?_
    obtain ⟨r6, m6, h⟩ := h.bnd
    refine S.sil 35 rfl rfl (fun _ hF => .callQ ent126 cF (.c (lk 0 rfl rfl) (V.sub.refl _) .nil) (C_rights_Right m6)) ?_
    refine S.sil 36 rfl rfl (fun _ hF => .move (lk 0 rfl rfl)) ?_
    refine S.gsil 37 3 36 true rfl rfl rfl (lk 0 rfl rfl) (fun hB _ hF => .fieldAddrC lay28 rfl rfl (lk 6 rfl rfl) rfl (flL_c (show flen _ = 1 from rfl) (flL_c (show flen _ = 1 from rfl) (flL_c (show flen _ = 1 from rfl) (flL_c (ty_TRights.fl a1.Down) flL_nil))))) ?_
    refine S.gsil 38 3 36 true rfl rfl rfl (lk 1 rfl rfl) (fun hB _ hF => .loadC sz26 ag26 (ifT hB (lk 0 rfl rfl)) (ty_TRights.fl a1.Up) rfl) ?_
    obtain ⟨r7, m7, h⟩ := h.bnd
    refine S.gsil 39 3 36 true rfl rfl rfl (lk 2 rfl rfl) (fun hB _ hF => .callQ ent126 cF (.c (ifT hB (lk 0 rfl rfl)) (V.sub.refl _) .nil) (C_rights_Right (gd_get m7 hB))) ?_
    refine S.sil 40 rfl rfl (fun _ hF => .pickAnd (lk 3 rfl rfl) (fun h => ifT h (lk 0 rfl rfl)) cB) ?_
    refine S.sil 41 rfl rfl (fun _ hF => .move (lk 0 rfl rfl)) ?_
    refine S.gsil 42 8 41 true rfl rfl rfl (lk 0 rfl rfl) (fun hB _ hF => .fieldAddrC lay28 rfl rfl (lk 11 rfl rfl) rfl (flL_c (show flen _ = 1 from rfl) (flL_c (show flen _ = 1 from rfl) (flL_c (show flen _ = 1 from rfl) flL_nil)))) ?_
    refine S.gsil 43 8 41 true rfl rfl rfl (lk 1 rfl rfl) (fun hB _ hF => .loadC sz26 ag26 (ifT hB (lk 0 rfl rfl)) (ty_TRights.fl a1.Down) rfl) ?_
    refine S.gsil 44 8 41 true rfl rfl rfl (lk 2 rfl rfl) (fun hB _ hF => .fieldAddrC lay28 rfl rfl (lk 13 rfl rfl) rfl (flL_c (show flen _ = 1 from rfl) (flL_c (show flen _ = 1 from rfl) (flL_c (show flen _ = 1 from rfl) (flL_c (ty_TRights.fl a1.Down) flL_nil))))) ?_
    refine S.gsil 45 8 41 true rfl rfl rfl (lk 3 rfl rfl) (fun hB _ hF => .loadC sz26 ag26 (ifT hB (lk 0 rfl rfl)) (ty_TRights.fl a1.Up) rfl) ?_
    refine S.gsil 46 8 41 true rfl rfl rfl (lk 4 rfl rfl) (fun hB _ hF => .fieldAddrC lay28 rfl rfl (lk 15 rfl rfl) rfl flL_nil) ?_
    refine S.gsil 47 8 41 true rfl rfl rfl (lk 5 rfl rfl) (fun hB _ hF => .loadC sz3 ag3 (ifT hB (lk 0 rfl rfl)) rfl rfl) ?_
    refine S.gsil 48 8 41 true rfl rfl rfl (lk 6 rfl rfl) (fun hB _ hF => .fieldAddrC lay28 rfl rfl (lk 17 rfl rfl) rfl (flL_c (show flen _ = 1 from rfl) flL_nil)) ?_
    refine S.gsil 49 8 41 true rfl rfl rfl (lk 7 rfl rfl) (fun hB _ hF => .loadC sz3 ag3 (ifT hB (lk 0 rfl rfl)) rfl rfl) ?_
    refine S.gsil 50 8 41 true rfl rfl rfl (lk 8 rfl rfl) (fun hB _ hF => .sub (ifT hB (lk 2 rfl rfl)) (ifT hB (lk 0 rfl rfl))) ?_
    obtain ⟨r8, m8, h⟩ := h.bnd
    refine S.gsil 51 8 41 true rfl rfl rfl (lk 9 rfl rfl) (fun hB _ hF => .callQ ent127 cF (.c (ifT hB (lk 7 rfl rfl)) (V.sub.refl _) (.c (ifT hB (lk 5 rfl rfl)) (V.sub.refl _) (.c (ifT hB (lk 0 rfl rfl)) (V.sub.refl _) .nil))) (C_counter_given (gd_get m8 hB))) ?_
    refine S.sil 52 rfl rfl (fun _ hF => .pickAnd (lk 10 rfl rfl) (fun h => ifT h (lk 0 rfl rfl)) cB) ?_
    refine S.sil 53 rfl rfl (fun _ hF => .move (lk 0 rfl rfl)) ?_
    refine S.gsil 54 20 53 true rfl rfl rfl (lk 0 rfl rfl) (fun hB _ hF => .fieldAddrC lay28 rfl rfl (lk 23 rfl rfl) rfl (flL_c (show flen _ = 1 from rfl) (flL_c (show flen _ = 1 from rfl) (flL_c (show flen _ = 1 from rfl) (flL_c (ty_TRights.fl a1.Down) flL_nil))))) ?_
    refine S.gsil 55 20 53 true rfl rfl rfl (lk 1 rfl rfl) (fun hB _ hF => .loadC sz26 ag26 (ifT hB (lk 0 rfl rfl)) (ty_TRights.fl a1.Up) rfl) ?_
    refine S.gsil 56 20 53 true rfl rfl rfl (lk 2 rfl rfl) (fun hB _ hF => .fieldAddrC lay28 rfl rfl (lk 25 rfl rfl) rfl (flL_c (show flen _ = 1 from rfl) (flL_c (show flen _ = 1 from rfl) (flL_c (show flen _ = 1 from rfl) flL_nil)))) ?_
    refine S.gsil 57 20 53 true rfl rfl rfl (lk 3 rfl rfl) (fun hB _ hF => .loadC sz26 ag26 (ifT hB (lk 0 rfl rfl)) (ty_TRights.fl a1.Down) rfl) ?_
    refine S.gsil 58 20 53 true rfl rfl rfl (lk 4 rfl rfl) (fun hB _ hF => .fieldAddrC lay28 rfl rfl (lk 27 rfl rfl) rfl (flL_c (show flen _ = 1 from rfl) (flL_c (show flen _ = 1 from rfl) flL_nil))) ?_
    refine S.gsil 59 20 53 true rfl rfl rfl (lk 5 rfl rfl) (fun hB _ hF => .loadC sz3 ag3 (ifT hB (lk 0 rfl rfl)) rfl rfl) ?_
    refine S.gsil 60 20 53 true rfl rfl rfl (lk 6 rfl rfl) (fun hB _ hF => .fieldAddrC lay28 rfl rfl (lk 29 rfl rfl) rfl flL_nil) ?_
    refine S.gsil 61 20 53 true rfl rfl rfl (lk 7 rfl rfl) (fun hB _ hF => .loadC sz3 ag3 (ifT hB (lk 0 rfl rfl)) rfl rfl) ?_
    refine S.gsil 62 20 53 true rfl rfl rfl (lk 8 rfl rfl) (fun hB _ hF => .sub (ifT hB (lk 2 rfl rfl)) (ifT hB (lk 0 rfl rfl))) ?_
    obtain ⟨r9, m9, h⟩ := h.bnd
    refine S.gsil 63 20 53 true rfl rfl rfl (lk 9 rfl rfl) (fun hB _ hF => .callQ ent127 cF (.c (ifT hB (lk 7 rfl rfl)) (V.sub.refl _) (.c (ifT hB (lk 5 rfl rfl)) (V.sub.refl _) (.c (ifT hB (lk 0 rfl rfl)) (V.sub.refl _) .nil))) (C_counter_given (gd_get m9 hB))) ?_
    refine S.sil 64 rfl rfl (fun _ hF => .pickAnd (lk 10 rfl rfl) (fun h => ifT h (lk 0 rfl rfl)) cB) ?_
    obtain ⟨v10, ev10, h⟩ := h.nam
    refine S.sil 2 rfl rfl (fun _ hF => .nv (.assign (lk 0 rfl rfl)) (congrArg V.bool ev10.symm)) ?_
    refine S.nil ?_
    refine thenQ_n ?_
    refine AWp.prune (.eq (lk 0 rfl rfl) rfl .nil) ?_
    refine AWp.ret ?_
    obtain rfl := h.ret
    exact endF1 rfl (Wk.selS [] .nil rfl (SelE.leaf (lk 0 rfl rfl) rfl (.refl _) (fun m => (TyOk.bool.lt _ _)) .nil) .nil) (.tmp (lk 0 rfl rfl) rfl) rfl rfl
theorem C_lock_Right_1 {a1 : Int} {r : Bool} (h : lock_Right_1 a1 = some r) : PureC Pg 128 [(V.int .i64) a1] (V.bool r) := by
  refine PureC.ofF (CallSpec.of_bodyF 9 0 fn128 rfl rfl rfl (Nat.le_of_ble_eq_true rfl) ?_) (ltL_c ((TyOk.int .i64).lt _ _) ltL_nil) (TyOk.bool.lt _ _)
  replace h := Ok.of h
  unfold lock_Right_1 at h
  refine AWp.seq ?_
  refine W.reg [0] rfl ?_
  refine S.sil 2 rfl rfl (fun _ hF => .assign cB) ?_
  refine S.nil ?_
  refine thenQ_n ?_
  refine AWp.seq ?_
  refine W.reg [0, 1, 2, 3, 4, 5, 6] rfl ?_
  refine S.sil 3 rfl rfl (fun _ hF => .move (lk 1 rfl rfl)) ?_
  refine S.sil 4 rfl rfl (fun _ hF => .geq (lk 0 rfl rfl) cI) ?_
  refine S.sil 5 rfl rfl (fun _ hF => .move (lk 0 rfl rfl)) ?_
  refine S.gsil 6 2 5 true rfl rfl rfl (lk 0 rfl rfl) (fun hB _ hF => .move (lk 4 rfl rfl)) ?_
  obtain ⟨r2, m2, h⟩ := h.bnd
  refine S.gsil 7 2 5 true rfl rfl rfl (lk 1 rfl rfl) (fun hB _ hF => .callQ ent64 cF (.c (ifT hB (lk 0 rfl rfl)) (V.sub.refl _) .nil) (C_num_Is (gd_get m2 hB))) ?_
  refine S.sil 8 rfl rfl (fun _ hF => .pickAnd (lk 2 rfl rfl) (fun h => ifT h (lk 0 rfl rfl)) cB) ?_
  obtain ⟨v3, ev3, h⟩ := h.nam
  refine S.sil 2 rfl rfl (fun _ hF => .nv (.assign (lk 0 rfl rfl)) (congrArg V.bool ev3.symm)) ?_
  refine S.nil ?_
  refine thenQ_n ?_
  refine AWp.ret ?_
  obtain rfl := h.ret
  exact endF1 rfl (Wk.selS [] .nil rfl (SelE.leaf (lk 0 rfl rfl) rfl (.refl _) (fun m => (TyOk.bool.lt _ _)) .nil) .nil) (.tmp (lk 0 rfl rfl) rfl) rfl rfl
theorem C_lock_is {a1 : Int} {r : Bool} (h : lock_is a1 = some r) : PureC Pg 129 [(V.int .i64) a1] (V.bool r) := by
  refine PureC.ofF (CallSpec.of_bodyF 9 0 fn129 rfl rfl rfl (Nat.le_of_ble_eq_true rfl) ?_) (ltL_c ((TyOk.int .i64).lt _ _) ltL_nil) (TyOk.bool.lt _ _)
  replace h := Ok.of h
  unfold lock_is at h
  refine AWp.seq ?_
  refine W.reg [0] rfl ?_
  refine S.sil 2 rfl rfl (fun _ hF => .assign cB) ?_
  refine S.nil ?_
  refine thenQ_n ?_
  refine AWp.seq ?_
  refine W.reg [0, 1, 2, 3, 4, 5, 6] rfl ?_
  refine S.sil 3 rfl rfl (fun _ hF => .move (lk 1 rfl rfl)) ?_
  refine S.sil 4 rfl rfl (fun _ hF => .geq (lk 0 rfl rfl) cI) ?_
  refine S.sil 5 rfl rfl (fun _ hF => .move (lk 0 rfl rfl)) ?_
  refine S.gsil 6 2 5 true rfl rfl rfl (lk 0 rfl rfl) (fun hB _ hF => .move (lk 4 rfl rfl)) ?_
  refine S.gsil 7 2 5 true rfl rfl rfl (lk 1 rfl rfl) (fun hB _ hF => .lss (ifT hB (lk 0 rfl rfl)) cI) ?_
  refine S.sil 8 rfl rfl (fun _ hF => .pickAnd (lk 2 rfl rfl) (fun h => ifT h (lk 0 rfl rfl)) cB) ?_
  obtain ⟨v2, ev2, h⟩ := h.nam
  refine S.sil 2 rfl rfl (fun _ hF => .nv (.assign (lk 0 rfl rfl)) (congrArg V.bool ev2.symm)) ?_
  refine S.nil ?_
  refine thenQ_n ?_
  refine AWp.ret ?_
  obtain rfl := h.ret
  exact endF1 rfl (Wk.selS [] .nil rfl (SelE.leaf (lk 0 rfl rfl) rfl (.refl _) (fun m => (TyOk.bool.lt _ _)) .nil) .nil) (.tmp (lk 0 rfl rfl) rfl) rfl rfl
theorem C_lock_Right {a1 : TLock} {r : Bool} (h : lock_Right a1 = some r) : PureC Pg 77 [E_TLock a1] (V.bool r) := by
  refine PureC.ofF (CallSpec.of_bodyF 24 0 fn77 rfl rfl rfl (Nat.le_of_ble_eq_true rfl) ?_) (ltL_c (ty_TLock.lt _ _) ltL_nil) (TyOk.bool.lt _ _)
  replace h := Ok.of h
  unfold lock_Right at h
  refine AWp.seq ?_
  refine W.reg [0, 1] rfl ?_
  refine S.eff 1 rfl rfl (.nf (v2 := .ptr 0 [] 0) (H2 := [.cells (E_TLock a1)]) (.box (lk 0 rfl rfl) rfl) rfl rfl) trivial ?_
  refine S.sil 2 rfl rfl (fun _ hF => .assign cB) ?_
  refine S.nil ?_
  refine thenQ_n ?_
  refine AWp.wk (Wk.freeze 0 rfl rfl (.same (lk 0 rfl rfl) (.cons (lk 1 rfl rfl) rfl (.ptr .nil (by first | rfl | omega)) .nil)) (.refl _)) ?_
  refine AWp.seq ?_
  refine W.reg [0] rfl ?_
  refine S.sil 3 rfl rfl (fun _ hF => .assign cF) ?_
  refine S.nil ?_
  refine thenQ_n ?_
  refine AWp.seq ?_
  refine W.reg [0, 1, 2, 3, 4, 5, 6, 7, 8, 9, 10, 11, 12, 13, 14, 15, 16, 17, 18, 19, 20] rfl ?_
  refine S.sil 4 rfl rfl (fun _ hF => .move (lk 0 rfl rfl)) ?_
  refine S.sil 5 rfl rfl (fun _ hF => .fieldAddrC lay30 rfl rfl (lk 3 rfl rfl) rfl flL_nil) ?_
  refine S.sil 6 rfl rfl (fun _ hF => .loadC sz3 ag3 (lk 0 rfl rfl) rfl rfl) ?_
  obtain ⟨r2, m2, h⟩ := h.bnd
  refine S.sil 7 rfl rfl (fun _ hF => .callQ ent128 (lk 2 rfl rfl) (.c (lk 0 rfl rfl) (V.sub.refl _) .nil) (C_lock_Right_1 m2)) ?_
  refine S.sil 8 rfl rfl (fun _ hF => .move (lk 0 rfl rfl)) ?_
  refine S.gsil 9 4 8 true rfl rfl rfl (lk 0 rfl rfl) (fun hB _ hF => .move (lk 5 rfl rfl)) ?_
  refine S.gsil 10 4 8 true rfl rfl rfl (lk 1 rfl rfl) (fun hB _ hF => .fieldAddrC lay30 rfl rfl (lk 8 rfl rfl) rfl (flL_c (show flen _ = 1 from rfl) flL_nil)) ?_
  refine S.gsil 11 4 8 true rfl rfl rfl (lk 2 rfl rfl) (fun hB _ hF => .loadC sz3 ag3 (ifT hB (lk 0 rfl rfl)) rfl rfl) ?_
  obtain ⟨r3, m3, h⟩ := h.bnd
  refine S.gsil 12 4 8 true rfl rfl rfl (lk 3 rfl rfl) (fun hB _ hF => .callQ ent128 (ifT hB (lk 2 rfl rfl)) (.c (ifT hB (lk 0 rfl rfl)) (V.sub.refl _) .nil) (C_lock_Right_1 (gd_get m3 hB))) ?_
  refine S.sil 13 rfl rfl (fun _ hF => .pickAnd (lk 4 rfl rfl) (fun h => ifT h (lk 0 rfl rfl)) cB) ?_
  refine S.sil 14 rfl rfl (fun _ hF => .move (lk 0 rfl rfl)) ?_
  refine S.gsil 15 10 14 true rfl rfl rfl (lk 0 rfl rfl) (fun hB _ hF => .fieldAddrC lay30 rfl rfl (lk 13 rfl rfl) rfl (flL_c (show flen _ = 1 from rfl) (flL_c (show flen _ = 1 from rfl) flL_nil))) ?_
  refine S.gsil 16 10 14 true rfl rfl rfl (lk 1 rfl rfl) (fun hB _ hF => .loadC sz3 ag3 (ifT hB (lk 0 rfl rfl)) rfl rfl) ?_
  obtain ⟨r4, m4, h⟩ := h.bnd
  refine S.gsil 17 10 14 true rfl rfl rfl (lk 2 rfl rfl) (fun hB _ hF => .callQ ent129 cF (.c (ifT hB (lk 0 rfl rfl)) (V.sub.refl _) .nil) (C_lock_is (gd_get m4 hB))) ?_
  refine S.sil 18 rfl rfl (fun _ hF => .pickAnd (lk 3 rfl rfl) (fun h => ifT h (lk 0 rfl rfl)) cB) ?_
  refine S.sil 19 rfl rfl (fun _ hF => .move (lk 0 rfl rfl)) ?_
  refine S.gsil 20 15 19 true rfl rfl rfl (lk 0 rfl rfl) (fun hB _ hF => .fieldAddrC lay30 rfl rfl (lk 18 rfl rfl) rfl (flL_c (show flen _ = 1 from rfl) (flL_c (show flen _ = 1 from rfl) (flL_c (show flen _ = 1 from rfl) flL_nil)))) ?_
  refine S.gsil 21 15 19 true rfl rfl rfl (lk 1 rfl rfl) (fun hB _ hF => .loadC sz3 ag3 (ifT hB (lk 0 rfl rfl)) rfl rfl) ?_
  obtain ⟨r5, m5, h⟩ := h.bnd
  refine S.gsil 22 15 19 true rfl rfl rfl (lk 2 rfl rfl) (fun hB _ hF => .callQ ent64 cF (.c (ifT hB (lk 0 rfl rfl)) (V.sub.refl _) .nil) (C_num_Is (gd_get m5 hB))) ?_
  refine S.sil 23 rfl rfl (fun _ hF => .pickAnd (lk 3 rfl rfl) (fun h => ifT h (lk 0 rfl rfl)) cB) ?_
  obtain ⟨v6, ev6, h⟩ := h.nam
  refine S.sil 2 rfl rfl (fun _ hF => .nv (.assign (lk 0 rfl rfl)) (congrArg V.bool ev6.symm)) ?_
  refine S.nil ?_
  refine thenQ_n ?_
  refine AWp.prune (.eq (lk 0 rfl rfl) rfl .nil) ?_
  refine AWp.ret ?_
  obtain rfl := h.ret
  exact endF1 rfl (Wk.selS [] .nil rfl (SelE.leaf (lk 0 rfl rfl) rfl (.refl _) (fun m => (TyOk.bool.lt _ _)) .nil) .nil) (.tmp (lk 0 rfl rfl) rfl) rfl rfl
theorem C_field_Right {a1 : TField} {r : Bool} (h : field_Right a1 = some r) : PureC Pg 36 [E_TField a1] (V.bool r) := by
  refine PureC.ofF (CallSpec.of_bodyF 53 0 fn36 rfl rfl rfl (Nat.le_of_ble_eq_true rfl) ?_) (ltL_c (ty_TField.lt _ _) ltL_nil) (TyOk.bool.lt _ _)
  replace h := Ok.of h
  unfold field_Right at h
  refine AWp.seq ?_
  refine W.reg [0, 1] rfl ?_
  refine S.eff 1 rfl rfl (.nf (v2 := .ptr 0 [] 0) (H2 := [.cells (E_TField a1)]) (.box (lk 0 rfl rfl) rfl) rfl rfl) trivial ?_
  refine S.sil 2 rfl rfl (fun _ hF => .assign cB) ?_
  refine S.nil ?_
  refine thenQ_n ?_
  refine AWp.wk (Wk.freeze 0 rfl rfl (.same (lk 0 rfl rfl) (.cons (lk 1 rfl rfl) rfl (.ptr .nil (by first | rfl | omega)) .nil)) (.refl _)) ?_
  refine AWp.seq ?_
  refine AWp.seq ?_
  refine W.reg [0, 1, 2, 3, 4, 5, 6, 7, 8, 9, 10, 11, 12, 13, 14] rfl ?_
  refine S.sil 3 rfl rfl (fun _ hF => .fieldAddrC lay33 rfl rfl (lk 1 rfl rfl) rfl flL_nil) ?_
  refine S.sil 4 rfl rfl (fun _ hF => .loadC sz9 ag9 (lk 0 rfl rfl) rfl rfl) ?_
  obtain ⟨r2, m2, h⟩ := h.bnd
  refine S.sil 5 rfl rfl (fun _ hF => .callQ ent72 cF (.c (lk 0 rfl rfl) (V.sub.refl _) .nil) (C_field_Name m2)) ?_
  refine S.sil 6 rfl rfl (fun _ hF => .not (lk 0 rfl rfl)) ?_
  refine S.sil 7 rfl rfl (fun _ hF => .move (lk 0 rfl rfl)) ?_
  refine S.gsil 8 4 7 false rfl rfl rfl (lk 0 rfl rfl) (fun hB _ hF => .fieldAddrC lay33 rfl rfl (lk 6 rfl rfl) rfl (flL_c (show flen _ = 1 from rfl) (flL_c (show flen _ = 1 from rfl) flL_nil))) ?_
  refine S.gsil 9 4 7 false rfl rfl rfl (lk 1 rfl rfl) (fun hB _ hF => .loadC sz3 ag3 (ifT hB (lk 0 rfl rfl)) rfl rfl) ?_
  refine S.gsil 10 4 7 false rfl rfl rfl (lk 2 rfl rfl) (fun hB _ hF => .lss (ifT hB (lk 0 rfl rfl)) cI) ?_
  refine S.sil 11 rfl rfl (fun _ hF => .pickOr (lk 3 rfl rfl) cB (fun h => ifT h (lk 0 rfl rfl))) ?_
  refine S.sil 12 rfl rfl (fun _ hF => .move (lk 0 rfl rfl)) ?_
  refine S.gsil 13 9 12 false rfl rfl rfl (lk 0 rfl rfl) (fun hB _ hF => .fieldAddrC lay33 rfl rfl (lk 11 rfl rfl) rfl (flL_c (show flen _ = 1 from rfl) (flL_c (show flen _ = 1 from rfl) flL_nil))) ?_
  refine S.gsil 14 9 12 false rfl rfl rfl (lk 1 rfl rfl) (fun hB _ hF => .loadC sz3 ag3 (ifT hB (lk 0 rfl rfl)) rfl rfl) ?_
  obtain ⟨r3, m3, h⟩ := h.bnd
  refine S.gsil 15 9 12 false rfl rfl rfl (lk 2 rfl rfl) (fun hB _ hF => .callQ ent64 cF (.c (ifT hB (lk 0 rfl rfl)) (V.sub.refl _) .nil) (C_num_Is (gd_get m3 hB))) ?_
  refine S.gsil 16 9 12 false rfl rfl rfl (lk 3 rfl rfl) (fun hB _ hF => .not (ifT hB (lk 0 rfl rfl))) ?_
  refine S.sil 17 rfl rfl (fun _ hF => .pickOr (lk 4 rfl rfl) cB (fun h => ifT h (lk 0 rfl rfl))) ?_
  refine S.nil ?_
  refine thenQ_n ?_
  refine AWp.prune (.eq (lk 0 rfl rfl) rfl (.eq (lk 15 rfl rfl) rfl (.eq (lk 16 rfl rfl) rfl .nil))) ?_
  refine AWp.condM (lk 0 rfl rfl) h (fun c1 h => ?_) (fun c1 h => ?_)
  · skip
    refine AWp.seq ?_
    refine W.reg [0] rfl ?_
    refine S.sil 2 rfl rfl (fun _ hF => .assign cB) ?_
    refine S.nil ?_
    refine thenQ_n ?_
    refine AWp.ret ?_
    refine thenQ_r ?_
    obtain rfl := h.ret
    exact endF1 rfl (Wk.selS [] .nil rfl (SelE.leaf (lk 0 rfl rfl) rfl (.refl _) (fun m => (TyOk.bool.lt _ _)) .nil) .nil) (.tmp (lk 0 rfl rfl) rfl) rfl rfl
  · skip
    refine AWp.skip ?_
    refine thenQ_n ?_
    refine AWp.seq ?_
    refine AWp.seq ?_
    refine W.reg [0, 1] rfl ?_
    refine S.sil 18 rfl rfl (fun _ hF => .fieldAddrC lay33 rfl rfl (lk 2 rfl rfl) rfl (flL_c (show flen _ = 1 from rfl) flL_nil)) ?_
    refine S.sil 19 rfl rfl (fun _ hF => .loadC sz3 ag3 (lk 0 rfl rfl) rfl rfl) ?_
    refine S.nil ?_
    refine thenQ_n ?_
    refine AWp.block ?_
    refine AWp.seq ?_
    refine W.reg [0, 1] rfl ?_
    refine S.sil 21 rfl rfl (fun _ hF => .eql (lk 0 rfl rfl) cI) ?_
    refine S.sil 20 rfl rfl (fun _ hF => .assign (lk 0 rfl rfl)) ?_
    refine S.nil ?_
    refine thenQ_n ?_
    refine AWp.condM (lk 0 rfl rfl) h (fun c2 h => ?_) (fun c2 h => ?_)
    · skip
      refine AWp.seq ?_
      refine W.reg [0, 1, 2, 3, 4, 5, 6, 7, 8, 9, 10, 11, 12, 13, 14] rfl ?_
      refine S.sil 22 rfl rfl (fun _ hF => .fieldAddrC lay33 rfl rfl (lk 6 rfl rfl) rfl (flL_c (show flen _ = 1 from rfl) (flL_c (show flen _ = 1 from rfl) (flL_c (show flen _ = 1 from rfl) flL_nil)))) ?_
      refine S.sil 23 rfl rfl (fun _ hF => .loadC sz28 ag28 (lk 0 rfl rfl) (ty_TCounter.fl a1.Counter) rfl) ?_
      obtain ⟨r4, m4, h⟩ := h.bnd
      refine S.sil 24 rfl rfl (fun _ hF => .callQ ent75 cF (.c (lk 0 rfl rfl) (V.sub.refl _) .nil) (C_counter_Right m4)) ?_
      refine S.sil 25 rfl rfl (fun _ hF => .move (lk 0 rfl rfl)) ?_
      refine S.gsil 26 3 25 true rfl rfl rfl (lk 0 rfl rfl) (fun hB _ hF => .fieldAddrC lay33 rfl rfl (lk 10 rfl rfl) rfl (flL_c (show flen _ = 1 from rfl) (flL_c (show flen _ = 1 from rfl) (flL_c (show flen _ = 1 from rfl) (flL_c (ty_TCounter.fl a1.Counter) (flL_c (ty_TLock.fl a1.Lock) flL_nil)))))) ?_
      refine S.gsil 27 3 25 true rfl rfl rfl (lk 1 rfl rfl) (fun hB _ hF => .loadC sz31 ag31 (ifT hB (lk 0 rfl rfl)) rfl rfl) ?_
      obtain ⟨r5, m5, h⟩ := h.bnd
      refine S.gsil 28 3 25 true rfl rfl rfl (lk 2 rfl rfl) (fun hB _ hF => .callQ ent76 cF (.c (ifT hB (lk 0 rfl rfl)) (V.sub.refl _) .nil) (C_hold_Rights (gd_get m5 hB))) ?_
      refine S.sil 29 rfl rfl (fun _ hF => .pickAnd (lk 3 rfl rfl) (fun h => ifT h (lk 0 rfl rfl)) cB) ?_
      refine S.sil 30 rfl rfl (fun _ hF => .move (lk 0 rfl rfl)) ?_
      refine S.gsil 31 8 30 true rfl rfl rfl (lk 0 rfl rfl) (fun hB _ hF => .fieldAddrC lay33 rfl rfl (lk 15 rfl rfl) rfl (flL_c (show flen _ = 1 from rfl) (flL_c (show flen _ = 1 from rfl) (flL_c (show flen _ = 1 from rfl) (flL_c (ty_TCounter.fl a1.Counter) flL_nil))))) ?_
      refine S.gsil 32 8 30 true rfl rfl rfl (lk 1 rfl rfl) (fun hB _ hF => .loadC sz30 ag30 (ifT hB (lk 0 rfl rfl)) (ty_TLock.fl a1.Lock) rfl) ?_
      refine S.gsil 33 8 30 true rfl rfl rfl (lk 2 rfl rfl) (fun hB _ hF => .nv (v2 := E_TLock (⟨0, 0, 0, 0⟩ : TLock)) (.buildStW lay30 zv30 rfl .nil) rfl) ?_
      refine S.gsil 34 8 30 true rfl rfl rfl (lk 3 rfl rfl) (fun hB _ hF => .eqlT eqt30 eqk_TLock shk_TLock (ifT hB (lk 1 rfl rfl)) (ifT hB (lk 0 rfl rfl)) rfl rfl) ?_
      refine S.sil 35 rfl rfl (fun _ hF => .pickAnd (lk 4 rfl rfl) (fun h => ifT h (lk 0 rfl rfl)) cB) ?_
      obtain ⟨v6, ev6, h⟩ := h.nam
      refine S.sil 2 rfl rfl (fun _ hF => .nv (.assign (lk 0 rfl rfl)) (congrArg V.bool ev6.symm)) ?_
      refine S.nil ?_
      refine thenQ_n ?_
      refine AWp.prune (.eq (lk 0 rfl rfl) rfl .nil) ?_
      refine AWp.ret ?_
      refine blockQ_r ?_
      refine thenQ_r ?_
      obtain rfl := h.ret
      exact endF1 rfl (Wk.selS [] .nil rfl (SelE.leaf (lk 0 rfl rfl) rfl (.refl _) (fun m => (TyOk.bool.lt _ _)) .nil) .nil) (.tmp (lk 0 rfl rfl) rfl) rfl rfl
    · skip
      refine AWp.seq ?_
      refine W.reg [0, 1] rfl ?_
      refine S.sil 37 rfl rfl (fun _ hF => .eql (lk 2 rfl rfl) cI) ?_
      refine S.sil 36 rfl rfl (fun _ hF => .assign (lk 0 rfl rfl)) ?_
      refine S.nil ?_
      refine thenQ_n ?_
      refine AWp.condM (lk 0 rfl rfl) h (fun c3 h => ?_) (fun c3 h => ?_)
      · skip
        refine AWp.seq ?_
        refine W.reg [0, 1, 2, 3, 4, 5, 6, 7, 8, 9, 10, 11, 12, 13, 14, 15] rfl ?_
        refine S.sil 38 rfl rfl (fun _ hF => .fieldAddrC lay33 rfl rfl (lk 8 rfl rfl) rfl (flL_c (show flen _ = 1 from rfl) (flL_c (show flen _ = 1 from rfl) (flL_c (show flen _ = 1 from rfl) (flL_c (ty_TCounter.fl a1.Counter) flL_nil))))) ?_
        refine S.sil 39 rfl rfl (fun _ hF => .loadC sz30 ag30 (lk 0 rfl rfl) (ty_TLock.fl a1.Lock) rfl) ?_
        obtain ⟨r7, m7, h⟩ := h.bnd
        refine S.sil 40 rfl rfl (fun _ hF => .callQ ent77 cF (.c (lk 0 rfl rfl) (V.sub.refl _) .nil) (C_lock_Right m7)) ?_
        refine S.sil 41 rfl rfl (fun _ hF => .move (lk 0 rfl rfl)) ?_
        refine S.gsil 42 3 41 true rfl rfl rfl (lk 0 rfl rfl) (fun hB _ hF => .fieldAddrC lay33 rfl rfl (lk 12 rfl rfl) rfl (flL_c (show flen _ = 1 from rfl) (flL_c (show flen _ = 1 from rfl) (flL_c (show flen _ = 1 from rfl) (flL_c (ty_TCounter.fl a1.Counter) (flL_c (ty_TLock.fl a1.Lock) flL_nil)))))) ?_
        refine S.gsil 43 3 41 true rfl rfl rfl (lk 1 rfl rfl) (fun hB _ hF => .loadC sz31 ag31 (ifT hB (lk 0 rfl rfl)) rfl rfl) ?_
        refine S.gsil 44 3 41 true rfl rfl rfl (lk 2 rfl rfl) (fun hB _ hF => .lenT sli31 (ifT hB (lk 0 rfl rfl)) (vsub rfl (.refl _))) ?_
        refine S.gsil 45 3 41 true rfl rfl rfl (lk 3 rfl rfl) (fun hB _ hF => .eql (ifT hB (lk 0 rfl rfl)) cI) ?_
        refine S.sil 46 rfl rfl (fun _ hF => .pickAnd (lk 4 rfl rfl) (fun h => ifT h (lk 0 rfl rfl)) cB) ?_
        refine S.sil 47 rfl rfl (fun _ hF => .move (lk 0 rfl rfl)) ?_
        refine S.gsil 48 9 47 true rfl rfl rfl (lk 0 rfl rfl) (fun hB _ hF => .fieldAddrC lay33 rfl rfl (lk 18 rfl rfl) rfl (flL_c (show flen _ = 1 from rfl) (flL_c (show flen _ = 1 from rfl) (flL_c (show flen _ = 1 from rfl) flL_nil)))) ?_
        refine S.gsil 49 9 47 true rfl rfl rfl (lk 1 rfl rfl) (fun hB _ hF => .loadC sz28 ag28 (ifT hB (lk 0 rfl rfl)) (ty_TCounter.fl a1.Counter) rfl) ?_
        refine S.gsil 50 9 47 true rfl rfl rfl (lk 2 rfl rfl) (fun hB _ hF => .nv (v2 := E_TCounter (⟨0, 0, 0, (default : TRights), (default : TRights)⟩ : TCounter)) (.buildStW lay28 zv28 rfl .nil) rfl) ?_
        refine S.gsil 51 9 47 true rfl rfl rfl (lk 3 rfl rfl) (fun hB _ hF => .eqlT eqt28 eqk_TCounter shk_TCounter (ifT hB (lk 1 rfl rfl)) (ifT hB (lk 0 rfl rfl)) rfl rfl) ?_
        obtain ⟨v8, ev8, h⟩ := h.nam
        refine S.sil 52 rfl rfl (fun _ hF => .nv (.pickAnd (lk 4 rfl rfl) (fun h => ifT h (lk 0 rfl rfl)) cB) (congrArg V.bool ev8.symm)) ?_
        refine S.sil 2 rfl rfl (fun _ hF => .assign (lk 0 rfl rfl)) ?_
        refine S.nil ?_
        refine thenQ_n ?_
        refine AWp.prune (.eq (lk 0 rfl rfl) rfl .nil) ?_
        refine AWp.ret ?_
        refine blockQ_r ?_
        refine thenQ_r ?_
        obtain rfl := h.ret
        exact endF1 rfl (Wk.selS [] .nil rfl (SelE.leaf (lk 0 rfl rfl) rfl (.refl _) (fun m => (TyOk.bool.lt _ _)) .nil) .nil) (.tmp (lk 0 rfl rfl) rfl) rfl rfl
      · skip
        refine AWp.skip ?_
        refine blockQ_n ?_
        refine thenQ_n ?_
        refine AWp.seq ?_
        refine W.reg [0] rfl ?_
        refine S.sil 2 rfl rfl (fun _ hF => .assign cB) ?_
        refine S.nil ?_
        refine thenQ_n ?_
        refine AWp.ret ?_
        obtain rfl := h.ret
        exact endF1 rfl (Wk.selS [] .nil rfl (SelE.leaf (lk 0 rfl rfl) rfl (.refl _) (fun m => (TyOk.bool.lt _ _)) .nil) .nil) (.tmp (lk 0 rfl rfl) rfl) rfl rfl
theorem C_wire_is {a1 : Int} {r : Bool} (h : wire_is a1 = some r) : PureC Pg 37 [(V.int .i64) a1] (V.bool r) := by
  refine PureC.ofF (CallSpec.of_bodyF 9 0 fn37 rfl rfl rfl (Nat.le_of_ble_eq_true rfl) ?_) (ltL_c ((TyOk.int .i64).lt _ _) ltL_nil) (TyOk.bool.lt _ _)
  replace h := Ok.of h
  unfold wire_is at h
  refine AWp.seq ?_
  refine W.reg [0] rfl ?_
  refine S.sil 2 rfl rfl (fun _ hF => .assign cB) ?_
  refine S.nil ?_
  refine thenQ_n ?_
  refine AWp.seq ?_
  refine W.reg [0, 1, 2, 3, 4, 5, 6] rfl ?_
  refine S.sil 3 rfl rfl (fun _ hF => .move (lk 1 rfl rfl)) ?_
  refine S.sil 4 rfl rfl (fun _ hF => .geq (lk 0 rfl rfl) cI) ?_
  refine S.sil 5 rfl rfl (fun _ hF => .move (lk 0 rfl rfl)) ?_
  refine S.gsil 6 2 5 true rfl rfl rfl (lk 0 rfl rfl) (fun hB _ hF => .move (lk 4 rfl rfl)) ?_
  refine S.gsil 7 2 5 true rfl rfl rfl (lk 1 rfl rfl) (fun hB _ hF => .leq (ifT hB (lk 0 rfl rfl)) cI) ?_
  refine S.sil 8 rfl rfl (fun _ hF => .pickAnd (lk 2 rfl rfl) (fun h => ifT h (lk 0 rfl rfl)) cB) ?_
  obtain ⟨v2, ev2, h⟩ := h.nam
  refine S.sil 2 rfl rfl (fun _ hF => .nv (.assign (lk 0 rfl rfl)) (congrArg V.bool ev2.symm)) ?_
  refine S.nil ?_
  refine thenQ_n ?_
  refine AWp.ret ?_
  obtain rfl := h.ret
  exact endF1 rfl (Wk.selS [] .nil rfl (SelE.leaf (lk 0 rfl rfl) rfl (.refl _) (fun m => (TyOk.bool.lt _ _)) .nil) .nil) (.tmp (lk 0 rfl rfl) rfl) rfl rfl
theorem C_wire_Down {a1 : Int} {a2 : TField} {r : TField × Twire_Residue × Int} (h : wire_Down a1 a2 = some r) : PureC Pg 13 [(V.int .i64) a1, E_TField a2] (.tup [E_TField r.1, E_Twire_Residue r.2.1, (V.int .i64) r.2.2]) := by
  refine PureC.ofF (CallSpec.of_bodyF 38 0 fn13 rfl rfl rfl (Nat.le_of_ble_eq_true rfl) ?_) (ltL_c ((TyOk.int .i64).lt _ _) (ltL_c (ty_TField.lt _ _) ltL_nil)) (lt_tup (ltL_c (ty_TField.lt _ _) (ltL_c (ty_Twire_Residue.lt _ _) (ltL_c ((TyOk.int .i64).lt _ _) ltL_nil))))
  replace h := Ok.of h
  unfold wire_Down at h
  refine AWp.seq ?_
  refine W.reg [0, 1, 2, 3] rfl ?_
  refine S.eff 3 rfl rfl (.nf (v2 := .ptr 0 [] 0) (H2 := [.cells (E_TField a2)]) (.box (lk 1 rfl rfl) rfl) rfl rfl) trivial ?_
  refine S.eff 4 rfl rfl (.nf (v2 := .ptr 1 [] 0) (H2 := [.cells (E_TField a2), .cells (.st [V.str (default : ByteArray), (V.int .i64) 0, (V.int .i64) 0, E_TCounter (default : TCounter), E_TLock (default : TLock), .nils])]) (.alloc zv33) rfl rfl) trivial ?_
  refine S.eff 5 rfl rfl (.nf (v2 := .ptr 2 [] 0) (H2 := [.cells (E_TField a2), .cells (.st [V.str (default : ByteArray), (V.int .i64) 0, (V.int .i64) 0, E_TCounter (default : TCounter), E_TLock (default : TLock), .nils]), .cells (.st [(V.int .i64) 0, .nils])]) (.alloc zv37) rfl rfl) trivial ?_
  refine S.sil 6 rfl rfl (fun _ hF => .assign cI) ?_
  refine S.nil ?_
  refine thenQ_n ?_
  refine AWp.seq ?_
  refine AWp.block ?_
  refine AWp.seq ?_
  refine W.reg [0, 1, 2, 3] rfl ?_
  refine S.qui 9 rfl rfl (fun _ => .loadP sz33 ag33 (lk 3 rfl rfl) rfl .nil (by first | rfl | omega) (ty_TField.fl a2) rfl) ?_
  obtain ⟨r3, m3, h⟩ := h.bnd
  refine S.sil 10 rfl rfl (fun _ hF => .callQ ent36 cF (.c (lk 0 rfl rfl) (V.sub.refl _) .nil) (C_field_Right m3)) ?_
  refine S.sil 11 rfl rfl (fun _ hF => .not (lk 0 rfl rfl)) ?_
  refine S.sil 8 rfl rfl (fun _ hF => .assign (lk 0 rfl rfl)) ?_
  refine S.nil ?_
  refine thenQ_n ?_
  refine AWp.condM (lk 0 rfl rfl) h (fun c1 h => ?_) (fun c1 h => ?_)
  · skip
    refine AWp.seq ?_
    refine W.reg [0, 1, 2, 3, 4] rfl ?_
    obtain ⟨v4, ev4, h⟩ := h.nam
    refine S.sil 12 rfl rfl (fun _ hF => .nv (.vs (v := .st [V.str (default : ByteArray), (V.int .i64) 0, (V.int .i64) 0, E_TCounter (default : TCounter), E_TLock (default : TLock), .nils]) (v2 := E_TField (⟨(default : ByteArray), 0, 0, (default : TCounter), (default : TLock), ([] : List THold)⟩ : TField)) (.buildStW lay33 zv33 rfl .nil) rfl (.st (.cons (.refl _) (.cons (.refl _) (.cons (.refl _) (.cons (.refl _) (.cons (.refl _) (.cons (.nils_no _) .nil)))))))) (congrArg E_TField ev4.symm)) ?_
    obtain ⟨v5, ev5, h⟩ := h.nam
    refine S.sil 13 rfl rfl (fun _ hF => .nv (.vs (v := .st [(V.int .i64) 0, .nils]) (v2 := E_Twire_Residue (⟨0, ([] : List THold)⟩ : Twire_Residue)) (.buildStW lay37 zv37 rfl .nil) rfl (.st (.cons (.refl _) (.cons (.nils_no _) .nil)))) (congrArg E_Twire_Residue ev5.symm)) ?_
    refine S.effN rfl rfl (.nf (H2 := [.cells (E_TField a2), .cells (E_TField v4), .cells (.st [(V.int .i64) 0, .nils])]) (.storeP sz33 (lk 8 rfl rfl) (lk 1 rfl rfl) rfl (.refl _) rfl .nil (by first | rfl | omega) .nil (ty_TField.fl v4) (fl_st (flL_c (show flen _ = 1 from rfl) (flL_c (show flen _ = 1 from rfl) (flL_c (show flen _ = 1 from rfl) (flL_c (ty_TCounter.fl (default : TCounter)) (flL_c (ty_TLock.fl (default : TLock)) (flL_c (show flen _ = 1 from rfl) flL_nil))))))) rfl) rfl rfl) trivial ?_
    refine S.effN rfl rfl (.nf (H2 := [.cells (E_TField a2), .cells (E_TField v4), .cells (E_Twire_Residue v5)]) (.storeP sz37 (lk 7 rfl rfl) (lk 0 rfl rfl) rfl (.refl _) rfl .nil (by first | rfl | omega) .nil (ty_Twire_Residue.fl v5) (fl_st (flL_c (show flen _ = 1 from rfl) (flL_c (show flen _ = 1 from rfl) flL_nil))) rfl) rfl rfl) trivial ?_
    refine S.sil 6 rfl rfl (fun _ hF => .assign cI) ?_
    refine S.nil ?_
    refine thenQ_n ?_
    refine AWp.ret ?_
    refine blockQ_r ?_
    refine thenQ_r ?_
    refine endF_wk (Wk.freeze 1 rfl rfl (.same (lk 0 rfl rfl) (.same (lk 0 rfl rfl) (.same (lk 8 rfl rfl) (.cons (lk 9 rfl rfl) rfl (.ptr .nil (by first | rfl | omega)) .nil)))) (.refl _)) ?_
    refine endF_wk (Wk.freeze 2 rfl rfl (.same (lk 0 rfl rfl) (.same (lk 0 rfl rfl) (.cons (lk 2 rfl rfl) rfl (.ptr .nil (by first | rfl | omega)) (.same (lk 3 rfl rfl) .nil)))) (.refl _)) ?_
    obtain rfl := h.ret
    exact endFN rfl (Wk.selS [] .nil rfl (SelE.leaf (lk 3 rfl rfl) rfl (.refl _) (fun m => (lt_cptr (ty_TField.lt _ _))) (SelE.leaf (lk 2 rfl rfl) rfl (.refl _) (fun m => (lt_cptr (ty_Twire_Residue.lt _ _))) (SelE.leaf (lk 0 rfl rfl) rfl (.refl _) (fun m => ((TyOk.int .i64).lt _ _)) .nil))) .nil) (.cons (.cellC sz33 ag33 (lk 0 rfl rfl) (ty_TField.fl _) rfl) (.cons (.cellC sz37 ag37 (lk 1 rfl rfl) (ty_Twire_Residue.fl _) rfl) (.cons (.tmp (lk 2 rfl rfl) rfl) .nil))) rfl rfl rfl
  · skip
    refine AWp.seq ?_
    refine W.reg [0, 1, 2, 3] rfl ?_
    refine S.sil 15 rfl rfl (fun _ hF => .move (lk 8 rfl rfl)) ?_
    obtain ⟨r6, m6, h⟩ := h.bnd
    refine S.sil 16 rfl rfl (fun _ hF => .callQ ent37 cF (.c (lk 0 rfl rfl) (V.sub.refl _) .nil) (C_wire_is m6)) ?_
    refine S.sil 17 rfl rfl (fun _ hF => .not (lk 0 rfl rfl)) ?_
    refine S.sil 14 rfl rfl (fun _ hF => .assign (lk 0 rfl rfl)) ?_
    refine S.nil ?_
    refine thenQ_n ?_
    refine AWp.condM (lk 0 rfl rfl) h (fun c2 h => ?_) (fun c2 h => ?_)
    · skip
      refine AWp.seq ?_
      refine W.reg [0, 1, 2, 3, 4] rfl ?_
      obtain ⟨v7, ev7, h⟩ := h.nam
      refine S.sil 18 rfl rfl (fun _ hF => .nv (.vs (v := .st [V.str (default : ByteArray), (V.int .i64) 0, (V.int .i64) 0, E_TCounter (default : TCounter), E_TLock (default : TLock), .nils]) (v2 := E_TField (⟨(default : ByteArray), 0, 0, (default : TCounter), (default : TLock), ([] : List THold)⟩ : TField)) (.buildStW lay33 zv33 rfl .nil) rfl (.st (.cons (.refl _) (.cons (.refl _) (.cons (.refl _) (.cons (.refl _) (.cons (.refl _) (.cons (.nils_no _) .nil)))))))) (congrArg E_TField ev7.symm)) ?_
      obtain ⟨v8, ev8, h⟩ := h.nam
      refine S.sil 19 rfl rfl (fun _ hF => .nv (.vs (v := .st [(V.int .i64) 0, .nils]) (v2 := E_Twire_Residue (⟨0, ([] : List THold)⟩ : Twire_Residue)) (.buildStW lay37 zv37 rfl .nil) rfl (.st (.cons (.refl _) (.cons (.nils_no _) .nil)))) (congrArg E_Twire_Residue ev8.symm)) ?_
      refine S.effN rfl rfl (.nf (H2 := [.cells (E_TField a2), .cells (E_TField v7), .cells (.st [(V.int .i64) 0, .nils])]) (.storeP sz33 (lk 12 rfl rfl) (lk 1 rfl rfl) rfl (.refl _) rfl .nil (by first | rfl | omega) .nil (ty_TField.fl v7) (fl_st (flL_c (show flen _ = 1 from rfl) (flL_c (show flen _ = 1 from rfl) (flL_c (show flen _ = 1 from rfl) (flL_c (ty_TCounter.fl (default : TCounter)) (flL_c (ty_TLock.fl (default : TLock)) (flL_c (show flen _ = 1 from rfl) flL_nil))))))) rfl) rfl rfl) trivial ?_
      refine S.effN rfl rfl (.nf (H2 := [.cells (E_TField a2), .cells (E_TField v7), .cells (E_Twire_Residue v8)]) (.storeP sz37 (lk 11 rfl rfl) (lk 0 rfl rfl) rfl (.refl _) rfl .nil (by first | rfl | omega) .nil (ty_Twire_Residue.fl v8) (fl_st (flL_c (show flen _ = 1 from rfl) (flL_c (show flen _ = 1 from rfl) flL_nil))) rfl) rfl rfl) trivial ?_
      refine S.sil 6 rfl rfl (fun _ hF => .assign cI) ?_
      refine S.nil ?_
      refine thenQ_n ?_
      refine AWp.prune (.eq (lk 0 rfl rfl) rfl (.eq (lk 12 rfl rfl) rfl (.eq (lk 13 rfl rfl) rfl (.eq (lk 14 rfl rfl) rfl (.eq (lk 15 rfl rfl) rfl .nil))))) ?_
      refine AWp.ret ?_
      refine blockQ_r ?_
      refine thenQ_r ?_
      refine endF_wk (Wk.freeze 1 rfl rfl (.same (lk 0 rfl rfl) (.same (lk 1 rfl rfl) (.cons (lk 2 rfl rfl) rfl (.ptr .nil (by first | rfl | omega)) .nil))) (.refl _)) ?_
      refine endF_wk (Wk.freeze 2 rfl rfl (.same (lk 0 rfl rfl) (.cons (lk 1 rfl rfl) rfl (.ptr .nil (by first | rfl | omega)) (.same (lk 2 rfl rfl) .nil))) (.refl _)) ?_
      obtain rfl := h.ret
      exact endFN rfl (Wk.selS [] .nil rfl (SelE.leaf (lk 2 rfl rfl) rfl (.refl _) (fun m => (lt_cptr (ty_TField.lt _ _))) (SelE.leaf (lk 1 rfl rfl) rfl (.refl _) (fun m => (lt_cptr (ty_Twire_Residue.lt _ _))) (SelE.leaf (lk 0 rfl rfl) rfl (.refl _) (fun m => ((TyOk.int .i64).lt _ _)) .nil))) .nil) (.cons (.cellC sz33 ag33 (lk 0 rfl rfl) (ty_TField.fl _) rfl) (.cons (.cellC sz37 ag37 (lk 1 rfl rfl) (ty_Twire_Residue.fl _) rfl) (.cons (.tmp (lk 2 rfl rfl) rfl) .nil))) rfl rfl rfl
    · skip
      refine AWp.skip ?_
      refine blockQ_n ?_
      refine thenQ_n ?_
      refine AWp.seq ?_
      refine W.reg [0] rfl ?_
      refine S.eff 7 rfl rfl (.nf (v2 := .ptr 3 [] 0) (H2 := [.cells (E_TField a2), .cells (.st [V.str (default : ByteArray), (V.int .i64) 0, (V.int .i64) 0, E_TCounter (default : TCounter), E_TLock (default : TLock), .nils]), .cells (.st [(V.int .i64) 0, .nils]), .cells (.st [(V.int .i64) 0, .nils])]) (.alloc zv37) rfl rfl) trivial ?_
      refine S.nil ?_
      refine thenQ_n ?_
      refine AWp.seq ?_
      refine W.reg [0, 1, 2, 3, 4] rfl ?_
      refine S.sil 20 rfl rfl (fun _ hF => .fieldAddr lay33 rfl rfl (lk 12 rfl rfl)) ?_
      refine S.qui 21 rfl rfl (fun _ => .loadP sz31 ag31 (lk 0 rfl rfl) rfl (.st rfl (flL_c (show flen _ = 1 from rfl) (flL_c (show flen _ = 1 from rfl) (flL_c (show flen _ = 1 from rfl) (flL_c (ty_TCounter.fl a2.Counter) (flL_c (ty_TLock.fl a2.Lock) flL_nil))))) .nil) (by first | rfl | omega) rfl rfl) ?_
      obtain ⟨r9, m9, h⟩ := h.bnd
      refine S.sil 22 rfl rfl (fun _ hF => .callQ ent38 cF (.c (lk 0 rfl rfl) (V.sub.refl _) .nil) (C_clone_38 m9)) ?_
      refine S.sil 23 rfl rfl (fun _ hF => .fieldAddr lay33 rfl rfl (lk 15 rfl rfl)) ?_
      obtain ⟨v10, ev10, h⟩ := h.nam
      refine S.effN rfl rfl (.nf (H2 := [.cells (E_TField v10), .cells (.st [V.str (default : ByteArray), (V.int .i64) 0, (V.int .i64) 0, E_TCounter (default : TCounter), E_TLock (default : TLock), .nils]), .cells (.st [(V.int .i64) 0, .nils]), .cells (.st [(V.int .i64) 0, .nils])]) (.storeP sz31 (lk 0 rfl rfl) (lk 1 rfl rfl) rfl (.refl _) rfl (.st rfl (flL_c (show flen _ = 1 from rfl) (flL_c (show flen _ = 1 from rfl) (flL_c (show flen _ = 1 from rfl) (flL_c (ty_TCounter.fl a2.Counter) (flL_c (ty_TLock.fl a2.Lock) flL_nil))))) .nil) (by first | rfl | omega) (.st rfl .nil rfl) rfl rfl (congrArg (fun z => ([AObj.cells (E_TField z), .cells (.st [V.str (default : ByteArray), (V.int .i64) 0, (V.int .i64) 0, E_TCounter (default : TCounter), E_TLock (default : TLock), .nils]), .cells (.st [(V.int .i64) 0, .nils]), .cells (.st [(V.int .i64) 0, .nils])] : List AObj)) ev10.symm)) rfl rfl) trivial ?_
      refine S.nil ?_
      refine thenQ_n ?_
      refine AWp.prune (.eq (lk 4 rfl rfl) rfl (.eq (lk 13 rfl rfl) rfl (.eq (lk 14 rfl rfl) rfl (.eq (lk 15 rfl rfl) rfl (.eq (lk 16 rfl rfl) rfl (.eq (lk 17 rfl rfl) rfl .nil)))))) ?_
      refine AWp.seq ?_
      refine AWp.seq ?_
      refine W.reg [0, 1] rfl ?_
      refine S.sil 24 rfl rfl (fun _ hF => .move (lk 5 rfl rfl)) ?_
      refine S.sil 25 rfl rfl (fun _ hF => .lss (lk 0 rfl rfl) cI) ?_
      refine S.nil ?_
      refine thenQ_n ?_
      refine AWp.condM (lk 0 rfl rfl) h (fun c3 h => ?_) (fun c3 h => ?_)
      · skip
        refine W.reg [0, 1, 2, 3, 4, 5] rfl ?_
        refine S.sil 26 rfl rfl (fun _ hF => .fieldAddr lay33 rfl rfl (lk 6 rfl rfl)) ?_
        refine S.qui 27 rfl rfl (fun _ => .loadP sz3 ag3 (lk 0 rfl rfl) rfl (.st rfl (flL_c (show flen _ = 1 from rfl) (flL_c (show flen _ = 1 from rfl) flL_nil)) .nil) (by first | rfl | omega) rfl rfl) ?_
        refine S.sil 28 rfl rfl (fun _ hF => .fieldAddr lay37 rfl rfl (lk 4 rfl rfl)) ?_
        refine S.effN rfl rfl (.nf (H2 := [.cells (E_TField v10), .cells (.st [V.str (default : ByteArray), (V.int .i64) 0, (V.int .i64) 0, E_TCounter (default : TCounter), E_TLock (default : TLock), .nils]), .cells (.st [(V.int .i64) 0, .nils]), .cells (.st [(V.int .i64) v10.Epoch, .nils])]) (.storeP sz3 (lk 0 rfl rfl) (lk 1 rfl rfl) rfl (.refl _) rfl (.st rfl flL_nil .nil) (by first | rfl | omega) (.st rfl .nil rfl) rfl rfl rfl) rfl rfl) trivial ?_
        refine S.sil 29 rfl rfl (fun _ hF => .fieldAddr lay33 rfl rfl (lk 9 rfl rfl)) ?_
        obtain ⟨v11, ev11, h⟩ := h.nam
        refine S.effN rfl rfl (.nf (H2 := [.cells (E_TField v11), .cells (.st [V.str (default : ByteArray), (V.int .i64) 0, (V.int .i64) 0, E_TCounter (default : TCounter), E_TLock (default : TLock), .nils]), .cells (.st [(V.int .i64) 0, .nils]), .cells (.st [(V.int .i64) v10.Epoch, .nils])]) (.storeP sz3 (lk 0 rfl rfl) cI rfl (.refl _) rfl (.st rfl (flL_c (show flen _ = 1 from rfl) (flL_c (show flen _ = 1 from rfl) flL_nil)) .nil) (by first | rfl | omega) (.st rfl .nil rfl) rfl rfl (congrArg (fun z => ([AObj.cells (E_TField z), .cells (.st [V.str (default : ByteArray), (V.int .i64) 0, (V.int .i64) 0, E_TCounter (default : TCounter), E_TLock (default : TLock), .nils]), .cells (.st [(V.int .i64) 0, .nils]), .cells (.st [(V.int .i64) v10.Epoch, .nils])] : List AObj)) ev11.symm)) rfl rfl) trivial ?_
        refine S.nil ?_
        refine thenQ_n ?_
        refine AWp.seq ?_
        refine AWp.seq ?_
        refine W.reg [0, 1] rfl ?_
        refine S.sil 30 rfl rfl (fun _ hF => .move (lk 11 rfl rfl)) ?_
        refine S.sil 31 rfl rfl (fun _ hF => .eql (lk 0 rfl rfl) cI) ?_
        refine S.nil ?_
        refine thenQ_n ?_
        refine AWp.condM (lk 0 rfl rfl) h (fun c4 h => ?_) (fun c4 h => ?_)
        · skip
          refine W.reg [0, 1, 2, 3, 4, 5] rfl ?_
          refine S.sil 32 rfl rfl (fun _ hF => .fieldAddr lay33 rfl rfl (lk 12 rfl rfl)) ?_
          refine S.qui 33 rfl rfl (fun _ => .loadP sz31 ag31 (lk 0 rfl rfl) rfl (.st rfl (flL_c (show flen _ = 1 from rfl) (flL_c (show flen _ = 1 from rfl) (flL_c (show flen _ = 1 from rfl) (flL_c (ty_TCounter.fl v11.Counter) (flL_c (ty_TLock.fl v11.Lock) flL_nil))))) .nil) (by first | rfl | omega) rfl rfl) ?_
          refine S.sil 34 rfl rfl (fun _ hF => .fieldAddr lay37 rfl rfl (lk 10 rfl rfl)) ?_
          refine S.effN rfl rfl (.nf (H2 := [.cells (E_TField v11), .cells (.st [V.str (default : ByteArray), (V.int .i64) 0, (V.int .i64) 0, E_TCounter (default : TCounter), E_TLock (default : TLock), .nils]), .cells (.st [(V.int .i64) 0, .nils]), .cells (.st [(V.int .i64) v10.Epoch, .sl 5 .no (List.map E_THold v11.Holds)])]) (.storeP sz31 (lk 0 rfl rfl) (lk 1 rfl rfl) rfl (.refl _) rfl (.st rfl (flL_c (show flen _ = 1 from rfl) flL_nil) .nil) (by first | rfl | omega) (.st rfl .nil rfl) rfl rfl rfl) rfl rfl) trivial ?_
          refine S.sil 35 rfl rfl (fun _ hF => .fieldAddr lay33 rfl rfl (lk 15 rfl rfl)) ?_
          obtain ⟨v12, ev12, h⟩ := h.nam
          refine S.effN rfl rfl (.nf (H2 := [.cells (E_TField v12), .cells (.st [V.str (default : ByteArray), (V.int .i64) 0, (V.int .i64) 0, E_TCounter (default : TCounter), E_TLock (default : TLock), .nils]), .cells (.st [(V.int .i64) 0, .nils]), .cells (.st [(V.int .i64) v10.Epoch, .sl 5 .no (List.map E_THold v11.Holds)])]) (.storeP sz31 (lk 0 rfl rfl) cNs rfl (.nils_no _) rfl (.st rfl (flL_c (show flen _ = 1 from rfl) (flL_c (show flen _ = 1 from rfl) (flL_c (show flen _ = 1 from rfl) (flL_c (ty_TCounter.fl v11.Counter) (flL_c (ty_TLock.fl v11.Lock) flL_nil))))) .nil) (by first | rfl | omega) (.st rfl .nil rfl) rfl rfl (congrArg (fun z => ([AObj.cells (E_TField z), .cells (.st [V.str (default : ByteArray), (V.int .i64) 0, (V.int .i64) 0, E_TCounter (default : TCounter), E_TLock (default : TLock), .nils]), .cells (.st [(V.int .i64) 0, .nils]), .cells (.st [(V.int .i64) v10.Epoch, .sl 5 .no (List.map E_THold v11.Holds)])] : List AObj)) ev12.symm)) rfl rfl) trivial ?_
          refine S.nil ?_
          refine thenQ_n ?_
          refine AWp.prune (.eq (lk 12 rfl rfl) rfl (.eq (lk 13 rfl rfl) rfl (.eq (lk 14 rfl rfl) rfl (.eq (lk 15 rfl rfl) rfl (.eq (lk 16 rfl rfl) rfl .nil))))) ?_
          refine AWp.seq ?_
          refine W.regF (fun H => H[0]? = some (.cells (E_TField v12)) ∧ H[3]? = some (.cells (.st [(V.int .i64) v10.Epoch, .sl 5 .no (List.map E_THold v11.Holds)]))) ⟨rfl, rfl⟩ [0, 1, 2, 3, 4] mixed ?_
          refine S.sil 36 rfl rfl (fun _ hF => .loadP sz33 ag33 (lk 4 rfl rfl) hF.1 .nil (by first | rfl | omega) (ty_TField.fl v12) rfl) ?_
          refine S.sil 37 rfl rfl (fun _ hF => .loadP sz37 ag37 (lk 1 rfl rfl) hF.2 .nil (by first | rfl | omega) (fl_st (flL_c (show flen _ = 1 from rfl) (flL_c (show flen _ = 1 from rfl) flL_nil))) rfl) ?_
          refine S.effN rfl rfl (.storeP sz33 (lk 5 rfl rfl) (lk 1 rfl rfl) rfl (.refl _) rfl .nil (by first | rfl | omega) .nil (ty_TField.fl v12) (fl_st (flL_c (show flen _ = 1 from rfl) (flL_c (show flen _ = 1 from rfl) (flL_c (show flen _ = 1 from rfl) (flL_c (ty_TCounter.fl (default : TCounter)) (flL_c (ty_TLock.fl (default : TLock)) (flL_c (show flen _ = 1 from rfl) flL_nil))))))) rfl) ⟨rfl, rfl⟩ ?_
          obtain ⟨v13, ev13, h⟩ := h.nam
          refine S.effN rfl rfl (.storeP sz37 (lk 4 rfl rfl) (lk 0 rfl rfl) rfl (.refl _) rfl .nil (by first | rfl | omega) .nil (ty_Twire_Residue.fl (⟨v10.Epoch, v11.Holds⟩ : Twire_Residue)) (fl_st (flL_c (show flen _ = 1 from rfl) (flL_c (show flen _ = 1 from rfl) flL_nil))) (congrArg (fun z => ([.cells (E_TField v12), .cells (E_TField v12), AObj.cells (E_Twire_Residue z), .cells (.st [(V.int .i64) v10.Epoch, .sl 5 .no (List.map E_THold v11.Holds)])] : List AObj)) ev13.symm)) ⟨rfl, rfl⟩ ?_
          refine S.sil 6 rfl rfl (fun _ hF => .assign cI) ?_
          refine S.nilD (by kernel_rfl) ?_
          refine thenQ_n ?_
          refine AWp.ret ?_
          refine endF_wk (Wk.freeze 1 rfl rfl (.same (lk 0 rfl rfl) (.same (lk 0 rfl rfl) (.same (lk 5 rfl rfl) (.cons (lk 6 rfl rfl) rfl (.ptr .nil (by first | rfl | omega)) .nil)))) (.refl _)) ?_
          refine endF_wk (Wk.freeze 2 rfl rfl (.same (lk 0 rfl rfl) (.same (lk 0 rfl rfl) (.cons (lk 2 rfl rfl) rfl (.ptr .nil (by first | rfl | omega)) (.same (lk 3 rfl rfl) .nil)))) (.refl _)) ?_
          obtain rfl := h.ret
          exact endFN rfl (Wk.selS [] .nil rfl (SelE.leaf (lk 3 rfl rfl) rfl (.refl _) (fun m => (lt_cptr (ty_TField.lt _ _))) (SelE.leaf (lk 2 rfl rfl) rfl (.refl _) (fun m => (lt_cptr (ty_Twire_Residue.lt _ _))) (SelE.leaf (lk 0 rfl rfl) rfl (.refl _) (fun m => ((TyOk.int .i64).lt _ _)) .nil))) .nil) (.cons (.cellC sz33 ag33 (lk 0 rfl rfl) (ty_TField.fl _) rfl) (.cons (.cellC sz37 ag37 (lk 1 rfl rfl) (ty_Twire_Residue.fl _) rfl) (.cons (.tmp (lk 2 rfl rfl) rfl) .nil))) rfl rfl rfl
        · skip
          refine AWp.skip ?_
          refine thenQ_n ?_
          refine AWp.seq ?_
          refine W.regF (fun H => H[0]? = some (.cells (E_TField v11)) ∧ H[3]? = some (.cells (.st [(V.int .i64) v10.Epoch, .nils]))) ⟨rfl, rfl⟩ [0, 1, 2, 3, 4] mixed ?_
          refine S.sil 36 rfl rfl (fun _ hF => .loadP sz33 ag33 (lk 12 rfl rfl) hF.1 .nil (by first | rfl | omega) (ty_TField.fl v11) rfl) ?_
          refine S.sil 37 rfl rfl (fun _ hF => .loadP sz37 ag37 (lk 9 rfl rfl) hF.2 .nil (by first | rfl | omega) (fl_st (flL_c (show flen _ = 1 from rfl) (flL_c (show flen _ = 1 from rfl) flL_nil))) rfl) ?_
          refine S.effN rfl rfl (.storeP sz33 (lk 13 rfl rfl) (lk 1 rfl rfl) rfl (.refl _) rfl .nil (by first | rfl | omega) .nil (ty_TField.fl v11) (fl_st (flL_c (show flen _ = 1 from rfl) (flL_c (show flen _ = 1 from rfl) (flL_c (show flen _ = 1 from rfl) (flL_c (ty_TCounter.fl (default : TCounter)) (flL_c (ty_TLock.fl (default : TLock)) (flL_c (show flen _ = 1 from rfl) flL_nil))))))) rfl) ⟨rfl, rfl⟩ ?_
          obtain ⟨v14, ev14, h⟩ := h.nam
          refine S.effN rfl rfl (.storeP sz37 (lk 12 rfl rfl) (lk 0 rfl rfl) rfl (.st (.cons (.refl _) (.cons (.nils_no _) .nil))) rfl .nil (by first | rfl | omega) .nil (ty_Twire_Residue.fl (⟨v10.Epoch, ([] : List THold)⟩ : Twire_Residue)) (fl_st (flL_c (show flen _ = 1 from rfl) (flL_c (show flen _ = 1 from rfl) flL_nil))) (congrArg (fun z => ([.cells (E_TField v11), .cells (E_TField v11), AObj.cells (E_Twire_Residue z), .cells (.st [(V.int .i64) v10.Epoch, .nils])] : List AObj)) ev14.symm)) ⟨rfl, rfl⟩ ?_
          refine S.sil 6 rfl rfl (fun _ hF => .assign cI) ?_
          refine S.nilD (by kernel_rfl) ?_
          refine thenQ_n ?_
          refine AWp.prune (.eq (lk 0 rfl rfl) rfl (.eq (lk 13 rfl rfl) rfl (.eq (lk 14 rfl rfl) rfl .nil))) ?_
          refine AWp.ret ?_
          refine endF_wk (Wk.freeze 1 rfl rfl (.same (lk 0 rfl rfl) (.same (lk 1 rfl rfl) (.cons (lk 2 rfl rfl) rfl (.ptr .nil (by first | rfl | omega)) .nil))) (.refl _)) ?_
          refine endF_wk (Wk.freeze 2 rfl rfl (.same (lk 0 rfl rfl) (.cons (lk 1 rfl rfl) rfl (.ptr .nil (by first | rfl | omega)) (.same (lk 2 rfl rfl) .nil))) (.refl _)) ?_
          obtain rfl := h.ret
          exact endFN rfl (Wk.selS [] .nil rfl (SelE.leaf (lk 2 rfl rfl) rfl (.refl _) (fun m => (lt_cptr (ty_TField.lt _ _))) (SelE.leaf (lk 1 rfl rfl) rfl (.refl _) (fun m => (lt_cptr (ty_Twire_Residue.lt _ _))) (SelE.leaf (lk 0 rfl rfl) rfl (.refl _) (fun m => ((TyOk.int .i64).lt _ _)) .nil))) .nil) (.cons (.cellC sz33 ag33 (lk 0 rfl rfl) (ty_TField.fl _) rfl) (.cons (.cellC sz37 ag37 (lk 1 rfl rfl) (ty_Twire_Residue.fl _) rfl) (.cons (.tmp (lk 2 rfl rfl) rfl) .nil))) rfl rfl rfl
      · skip
        refine AWp.skip ?_
        refine thenQ_n ?_
        refine AWp.seq ?_
        refine AWp.seq ?_
        refine W.reg [0, 1] rfl ?_
        refine S.sil 30 rfl rfl (fun _ hF => .move (lk 7 rfl rfl)) ?_
        refine S.sil 31 rfl rfl (fun _ hF => .eql (lk 0 rfl rfl) cI) ?_
        refine S.nil ?_
        refine thenQ_n ?_
        refine AWp.condM (lk 0 rfl rfl) h (fun c5 h => ?_) (fun c5 h => ?_)
        · skip
          refine W.reg [0, 1, 2, 3, 4, 5] rfl ?_
          refine S.sil 32 rfl rfl (fun _ hF => .fieldAddr lay33 rfl rfl (lk 8 rfl rfl)) ?_
          refine S.qui 33 rfl rfl (fun _ => .loadP sz31 ag31 (lk 0 rfl rfl) rfl (.st rfl (flL_c (show flen _ = 1 from rfl) (flL_c (show flen _ = 1 from rfl) (flL_c (show flen _ = 1 from rfl) (flL_c (ty_TCounter.fl v10.Counter) (flL_c (ty_TLock.fl v10.Lock) flL_nil))))) .nil) (by first | rfl | omega) rfl rfl) ?_
          refine S.sil 34 rfl rfl (fun _ hF => .fieldAddr lay37 rfl rfl (lk 6 rfl rfl)) ?_
          refine S.effN rfl rfl (.nf (H2 := [.cells (E_TField v10), .cells (.st [V.str (default : ByteArray), (V.int .i64) 0, (V.int .i64) 0, E_TCounter (default : TCounter), E_TLock (default : TLock), .nils]), .cells (.st [(V.int .i64) 0, .nils]), .cells (.st [(V.int .i64) 0, .sl 5 .no (List.map E_THold v10.Holds)])]) (.storeP sz31 (lk 0 rfl rfl) (lk 1 rfl rfl) rfl (.refl _) rfl (.st rfl (flL_c (show flen _ = 1 from rfl) flL_nil) .nil) (by first | rfl | omega) (.st rfl .nil rfl) rfl rfl rfl) rfl rfl) trivial ?_
          refine S.sil 35 rfl rfl (fun _ hF => .fieldAddr lay33 rfl rfl (lk 11 rfl rfl)) ?_
          obtain ⟨v15, ev15, h⟩ := h.nam
          refine S.effN rfl rfl (.nf (H2 := [.cells (E_TField v15), .cells (.st [V.str (default : ByteArray), (V.int .i64) 0, (V.int .i64) 0, E_TCounter (default : TCounter), E_TLock (default : TLock), .nils]), .cells (.st [(V.int .i64) 0, .nils]), .cells (.st [(V.int .i64) 0, .sl 5 .no (List.map E_THold v10.Holds)])]) (.storeP sz31 (lk 0 rfl rfl) cNs rfl (.nils_no _) rfl (.st rfl (flL_c (show flen _ = 1 from rfl) (flL_c (show flen _ = 1 from rfl) (flL_c (show flen _ = 1 from rfl) (flL_c (ty_TCounter.fl v10.Counter) (flL_c (ty_TLock.fl v10.Lock) flL_nil))))) .nil) (by first | rfl | omega) (.st rfl .nil rfl) rfl rfl (congrArg (fun z => ([AObj.cells (E_TField z), .cells (.st [V.str (default : ByteArray), (V.int .i64) 0, (V.int .i64) 0, E_TCounter (default : TCounter), E_TLock (default : TLock), .nils]), .cells (.st [(V.int .i64) 0, .nils]), .cells (.st [(V.int .i64) 0, .sl 5 .no (List.map E_THold v10.Holds)])] : List AObj)) ev15.symm)) rfl rfl) trivial ?_
          refine S.nil ?_
          refine thenQ_n ?_
          refine AWp.seq ?_
          refine W.regF (fun H => H[0]? = some (.cells (E_TField v15)) ∧ H[3]? = some (.cells (.st [(V.int .i64) 0, .sl 5 .no (List.map E_THold v10.Holds)]))) ⟨rfl, rfl⟩ [0, 1, 2, 3, 4] mixed ?_
          refine S.sil 36 rfl rfl (fun _ hF => .loadP sz33 ag33 (lk 12 rfl rfl) hF.1 .nil (by first | rfl | omega) (ty_TField.fl v15) rfl) ?_
          refine S.sil 37 rfl rfl (fun _ hF => .loadP sz37 ag37 (lk 9 rfl rfl) hF.2 .nil (by first | rfl | omega) (fl_st (flL_c (show flen _ = 1 from rfl) (flL_c (show flen _ = 1 from rfl) flL_nil))) rfl) ?_
          refine S.effN rfl rfl (.storeP sz33 (lk 13 rfl rfl) (lk 1 rfl rfl) rfl (.refl _) rfl .nil (by first | rfl | omega) .nil (ty_TField.fl v15) (fl_st (flL_c (show flen _ = 1 from rfl) (flL_c (show flen _ = 1 from rfl) (flL_c (show flen _ = 1 from rfl) (flL_c (ty_TCounter.fl (default : TCounter)) (flL_c (ty_TLock.fl (default : TLock)) (flL_c (show flen _ = 1 from rfl) flL_nil))))))) rfl) ⟨rfl, rfl⟩ ?_
          obtain ⟨v16, ev16, h⟩ := h.nam
          refine S.effN rfl rfl (.storeP sz37 (lk 12 rfl rfl) (lk 0 rfl rfl) rfl (.refl _) rfl .nil (by first | rfl | omega) .nil (ty_Twire_Residue.fl (⟨0, v10.Holds⟩ : Twire_Residue)) (fl_st (flL_c (show flen _ = 1 from rfl) (flL_c (show flen _ = 1 from rfl) flL_nil))) (congrArg (fun z => ([.cells (E_TField v15), .cells (E_TField v15), AObj.cells (E_Twire_Residue z), .cells (.st [(V.int .i64) 0, .sl 5 .no (List.map E_THold v10.Holds)])] : List AObj)) ev16.symm)) ⟨rfl, rfl⟩ ?_
          refine S.sil 6 rfl rfl (fun _ hF => .assign cI) ?_
          refine S.nilD (by kernel_rfl) ?_
          refine thenQ_n ?_
          refine AWp.prune (.eq (lk 0 rfl rfl) rfl (.eq (lk 13 rfl rfl) rfl (.eq (lk 14 rfl rfl) rfl .nil))) ?_
          refine AWp.ret ?_
          refine endF_wk (Wk.freeze 1 rfl rfl (.same (lk 0 rfl rfl) (.same (lk 1 rfl rfl) (.cons (lk 2 rfl rfl) rfl (.ptr .nil (by first | rfl | omega)) .nil))) (.refl _)) ?_
          refine endF_wk (Wk.freeze 2 rfl rfl (.same (lk 0 rfl rfl) (.cons (lk 1 rfl rfl) rfl (.ptr .nil (by first | rfl | omega)) (.same (lk 2 rfl rfl) .nil))) (.refl _)) ?_
          obtain rfl := h.ret
          exact endFN rfl (Wk.selS [] .nil rfl (SelE.leaf (lk 2 rfl rfl) rfl (.refl _) (fun m => (lt_cptr (ty_TField.lt _ _))) (SelE.leaf (lk 1 rfl rfl) rfl (.refl _) (fun m => (lt_cptr (ty_Twire_Residue.lt _ _))) (SelE.leaf (lk 0 rfl rfl) rfl (.refl _) (fun m => ((TyOk.int .i64).lt _ _)) .nil))) .nil) (.cons (.cellC sz33 ag33 (lk 0 rfl rfl) (ty_TField.fl _) rfl) (.cons (.cellC sz37 ag37 (lk 1 rfl rfl) (ty_Twire_Residue.fl _) rfl) (.cons (.tmp (lk 2 rfl rfl) rfl) .nil))) rfl rfl rfl
        · skip
          refine AWp.skip ?_
          refine thenQ_n ?_
          refine AWp.seq ?_
          refine W.regF (fun H => H[0]? = some (.cells (E_TField v10)) ∧ H[3]? = some (.cells (.st [(V.int .i64) 0, .nils]))) ⟨rfl, rfl⟩ [0, 1, 2, 3, 4] mixed ?_
          refine S.sil 36 rfl rfl (fun _ hF => .loadP sz33 ag33 (lk 8 rfl rfl) hF.1 .nil (by first | rfl | omega) (ty_TField.fl v10) rfl) ?_
          refine S.sil 37 rfl rfl (fun _ hF => .loadP sz37 ag37 (lk 5 rfl rfl) hF.2 .nil (by first | rfl | omega) (fl_st (flL_c (show flen _ = 1 from rfl) (flL_c (show flen _ = 1 from rfl) flL_nil))) rfl) ?_
          refine S.effN rfl rfl (.storeP sz33 (lk 9 rfl rfl) (lk 1 rfl rfl) rfl (.refl _) rfl .nil (by first | rfl | omega) .nil (ty_TField.fl v10) (fl_st (flL_c (show flen _ = 1 from rfl) (flL_c (show flen _ = 1 from rfl) (flL_c (show flen _ = 1 from rfl) (flL_c (ty_TCounter.fl (default : TCounter)) (flL_c (ty_TLock.fl (default : TLock)) (flL_c (show flen _ = 1 from rfl) flL_nil))))))) rfl) ⟨rfl, rfl⟩ ?_
          obtain ⟨v17, ev17, h⟩ := h.nam
          refine S.effN rfl rfl (.storeP sz37 (lk 8 rfl rfl) (lk 0 rfl rfl) rfl (.st (.cons (.refl _) (.cons (.nils_no _) .nil))) rfl .nil (by first | rfl | omega) .nil (ty_Twire_Residue.fl (⟨0, ([] : List THold)⟩ : Twire_Residue)) (fl_st (flL_c (show flen _ = 1 from rfl) (flL_c (show flen _ = 1 from rfl) flL_nil))) (congrArg (fun z => ([.cells (E_TField v10), .cells (E_TField v10), AObj.cells (E_Twire_Residue z), .cells (.st [(V.int .i64) 0, .nils])] : List AObj)) ev17.symm)) ⟨rfl, rfl⟩ ?_
          refine S.sil 6 rfl rfl (fun _ hF => .assign cI) ?_
          refine S.nilD (by kernel_rfl) ?_
          refine thenQ_n ?_
          refine AWp.prune (.eq (lk 0 rfl rfl) rfl (.eq (lk 9 rfl rfl) rfl (.eq (lk 10 rfl rfl) rfl .nil))) ?_
          refine AWp.ret ?_
          refine endF_wk (Wk.freeze 1 rfl rfl (.same (lk 0 rfl rfl) (.same (lk 1 rfl rfl) (.cons (lk 2 rfl rfl) rfl (.ptr .nil (by first | rfl | omega)) .nil))) (.refl _)) ?_
          refine endF_wk (Wk.freeze 2 rfl rfl (.same (lk 0 rfl rfl) (.cons (lk 1 rfl rfl) rfl (.ptr .nil (by first | rfl | omega)) (.same (lk 2 rfl rfl) .nil))) (.refl _)) ?_
          obtain rfl := h.ret
          exact endFN rfl (Wk.selS [] .nil rfl (SelE.leaf (lk 2 rfl rfl) rfl (.refl _) (fun m => (lt_cptr (ty_TField.lt _ _))) (SelE.leaf (lk 1 rfl rfl) rfl (.refl _) (fun m => (lt_cptr (ty_Twire_Residue.lt _ _))) (SelE.leaf (lk 0 rfl rfl) rfl (.refl _) (fun m => ((TyOk.int .i64).lt _ _)) .nil))) .nil) (.cons (.cellC sz33 ag33 (lk 0 rfl rfl) (ty_TField.fl _) rfl) (.cons (.cellC sz37 ag37 (lk 1 rfl rfl) (ty_Twire_Residue.fl _) rfl) (.cons (.tmp (lk 2 rfl rfl) rfl) .nil))) rfl rfl rfl
theorem C_slices_Grow_Hold_own {a1 : Int} {r : (List THold)} (h : slices_Grow_Hold_own a1 = some r) : CallSpec Pg 83 [.nils, (V.int .i64) a1] [] fun o H' => o = .ret (.slo 5 0 [] 0 0 r.length 1) ∧ H' = [.buf 5 (List.map E_THold r)] := by
  refine CallSpec.of_bodyF 27 0 fn83 rfl rfl rfl (Nat.le_of_ble_eq_true rfl) ?_
  replace h := Ok.of h
  unfold slices_Grow_Hold_own at h
  refine AWp.seq ?_
  refine W.reg [0] rfl ?_
  refine S.sil 4 rfl rfl (fun _ hF => .assign cNs) ?_
  refine S.nil ?_
  refine thenQ_n ?_
  refine AWp.seq ?_
  refine AWp.seq ?_
  refine W.reg [0, 1] rfl ?_
  refine S.sil 5 rfl rfl (fun _ hF => .move (lk 2 rfl rfl)) ?_
  refine S.sil 6 rfl rfl (fun _ hF => .lss (lk 0 rfl rfl) cI) ?_
  refine S.nil ?_
  refine thenQ_n ?_
  refine AWp.condM (lk 0 rfl rfl) h (fun c1 h => ?_) (fun c1 h => ?_)
  · skip
    exact h.no.elim
  · skip
    refine AWp.skip ?_
    refine thenQ_n ?_
    refine AWp.seq ?_
    refine AWp.seq ?_
    refine W.reg [0, 1, 2, 3, 4, 5, 6, 7] rfl ?_
    refine S.sil 8 rfl rfl (fun _ hF => .move (lk 4 rfl rfl)) ?_
    refine S.sil 9 rfl rfl (fun _ hF => .move (lk 4 rfl rfl)) ?_
    refine S.sil 10 rfl rfl (fun _ hF => .capNil sli31 (lk 0 rfl rfl)) ?_
    refine S.sil 11 rfl rfl (fun _ hF => .move (lk 6 rfl rfl)) ?_
    refine S.sil 12 rfl rfl (fun _ hF => .lenN sli31 (lk 0 rfl rfl)) ?_
    refine S.sil 13 rfl rfl (fun _ hF => .sub (lk 2 rfl rfl) (lk 0 rfl rfl)) ?_
    refine S.sil 14 rfl rfl (fun _ hF => .sub (lk 5 rfl rfl) (lk 0 rfl rfl)) ?_
    obtain ⟨v2, ev2, h⟩ := h.nam
    refine S.sil 1 rfl rfl (fun _ hF => .nv (.assign (lk 0 rfl rfl)) (congrArg (V.int .i64) ev2.symm)) ?_
    refine S.nil ?_
    refine thenQ_n ?_
    refine AWp.prune (.eq (lk 0 rfl rfl) rfl (.eq (lk 10 rfl rfl) rfl (.eq (lk 11 rfl rfl) rfl .nil))) ?_
    refine AWp.seq ?_
    refine W.reg [0, 1] rfl ?_
    refine S.sil 15 rfl rfl (fun _ hF => .move (lk 0 rfl rfl)) ?_
    refine S.sil 16 rfl rfl (fun _ hF => .gtr (lk 0 rfl rfl) cI) ?_
    refine S.nil ?_
    refine thenQ_n ?_
    refine AWp.condM (lk 0 rfl rfl) h (fun c2 h => ?_) (fun c2 h => ?_)
    · skip
      refine W.reg [0, 1, 2, 3, 4, 5, 6, 7, 8, 9] rfl ?_
      refine S.sil 17 rfl rfl (fun _ hF => .move (lk 4 rfl rfl)) ?_
      refine S.sil 18 rfl rfl (fun _ hF => .move (lk 5 rfl rfl)) ?_
      refine S.sil 19 rfl rfl (fun _ hF => .capNil sli31 (lk 0 rfl rfl)) ?_
      refine S.sil 20 rfl rfl (fun _ hF => .sliceNil0 sli31 (lk 2 rfl rfl) (lk 0 rfl rfl)) ?_
      refine S.sil 21 rfl rfl (fun _ hF => .move (lk 6 rfl rfl)) ?_
      obtain ⟨u3, m3, h⟩ := h.bnd
      refine S.eff 22 rfl rfl (.nf (v2 := .slo 5 0 [] 0 0 v2.toNat 1) (H2 := [.buf 5 (List.map E_THold ([] : List THold))]) (.appMake sli31 und3 zv66 rfl (by decide) (lk 1 rfl rfl) (lk 0 rfl rfl) (mkM_get m3).1 (mkM_get m3).2 rfl) rfl rfl) trivial ?_
      refine S.sil 23 rfl rfl (fun _ hF => .move (lk 10 rfl rfl)) ?_
      refine S.sil 24 rfl rfl (fun _ hF => .lenN sli31 (lk 0 rfl rfl)) ?_
      refine S.sil 25 rfl rfl (fun _ hF => .sliceOwn0 sli31 (lk 2 rfl rfl) (lk 0 rfl rfl)) ?_
      refine S.sil 0 rfl rfl (fun _ hF => .assign (lk 0 rfl rfl)) ?_
      refine S.nil ?_
      refine thenQ_n ?_
      refine AWp.prune (.eq (lk 0 rfl rfl) rfl (.eq (lk 13 rfl rfl) rfl .nil)) ?_
      refine AWp.seq ?_
      refine W.reg [0, 1] rfl ?_
      refine S.sil 26 rfl rfl (fun _ hF => .move (lk 0 rfl rfl)) ?_
      refine S.sil 4 rfl rfl (fun _ hF => .assign (lk 0 rfl rfl)) ?_
      refine S.nil ?_
      refine thenQ_n ?_
      refine AWp.ret ?_
      obtain rfl := h.ret
      exact endF1 rfl (Wk.selS [0] (by decide) rfl (SelE.spec (v := .slo 5 0 [] 0 0 ([] : List THold).length 1) (lk 0 rfl rfl) rfl (.slo (by first | rfl | simp)) rfl rfl .nil) (.cons rfl rfl (ASub.refl _) .nil)) (.tmp (lk 0 rfl rfl) rfl) rfl rfl
    · skip
      refine AWp.skip ?_
      refine thenQ_n ?_
      refine AWp.seq ?_
      refine W.reg [0, 1] rfl ?_
      refine S.sil 26 rfl rfl (fun _ hF => .move (lk 4 rfl rfl)) ?_
      refine S.sil 4 rfl rfl (fun _ hF => .assign (lk 0 rfl rfl)) ?_
      refine S.nil ?_
      refine thenQ_n ?_
      refine AWp.ret ?_
      refine endF_wk (Wk.nilbuf 5 (lk 0 rfl rfl)) ?_
      obtain rfl := h.ret
      exact endF1 rfl (Wk.selS [0] (by decide) rfl (SelE.spec (v := .slo 5 0 [] 0 0 ([] : List THold).length 1) (lk 0 rfl rfl) rfl (.slo (by first | rfl | simp)) rfl rfl .nil) (.cons rfl rfl (ASub.refl _) .nil)) (.tmp (lk 0 rfl rfl) rfl) rfl rfl
theorem C_slices_Concat_Hold {a1 : List (List THold)} {r : (List THold)} (h : slices_Concat_Hold a1 = some r) : PureC Pg 44 [.sl 1 .no (List.map E_S_THold a1)] (E_S_THold r) := by
  refine PureC.ofF (CallSpec.of_bodyF 36 0 fn44 rfl rfl rfl (Nat.le_of_ble_eq_true rfl) ?_) (ltL_c (lt_sl rfl (ty_S_THold.ltm _ _)) ltL_nil) (ty_S_THold.lt _ _)
  replace h := Ok.of h
  unfold slices_Concat_Hold at h
  refine AWp.seq ?_
  refine W.reg [0] rfl ?_
  refine S.sil 2 rfl rfl (fun _ hF => .assign cNs) ?_
  refine S.nil ?_
  refine thenQ_n ?_
  refine AWp.seq ?_
  refine W.reg [0] rfl ?_
  refine S.sil 3 rfl rfl (fun _ hF => .assign cI) ?_
  refine S.nil ?_
  refine thenQ_n ?_
  refine AWp.seq ?_
  refine AWp.seq ?_
  refine W.reg [0, 1, 2] rfl ?_
  refine S.sil 9 rfl rfl (fun _ hF => .move (lk 2 rfl rfl)) ?_
  refine S.sil 10 rfl rfl (fun _ hF => .lenT sli114 (lk 0 rfl rfl) (vsub rfl (.refl _))) ?_
  refine S.sil 11 rfl rfl (fun _ hF => .move cI) ?_
  refine S.nil ?_
  refine thenQ_n ?_
  refine AWp.cutX (fun x4 => ⟨[(3, (V.int .i64) x4), (2, .nils), (0, .sl 1 .no (List.map E_S_THold a1))], []⟩) nc_then h (fun q2 hq2 => ?_) (fun x4 h => ?_)
  · refine AWp.block ?_
    refine AWp.loopT (fun s3 => ⟨[(11, (V.int .i64) s3.1), (10, (V.int .i64) (a1.length : Int)), (9, .sl 1 .no (List.map E_S_THold a1)), (3, (V.int .i64) s3.2), (2, .nils), (0, .sl 1 .no (List.map E_S_THold a1))], []⟩) hq2 (Wk.selS [] (by decide) rfl (SelE.leaf (lk 0 rfl rfl) rfl (.refl _) (fun m => ((TyOk.int .i64).lt _ _)) (SelE.leaf (lk 1 rfl rfl) rfl (.refl _) (fun m => ((TyOk.int .i64).lt _ _)) (SelE.leaf (lk 2 rfl rfl) rfl (.refl _) (fun m => (lt_sl rfl (ty_S_THold.ltm _ _))) (SelE.leaf (lk 3 rfl rfl) rfl (.refl _) (fun m => ((TyOk.int .i64).lt _ _)) (SelE.leaf (lk 4 rfl rfl) rfl (.refl _) (fun m => rfl) (SelE.leaf (lk 5 rfl rfl) rfl (.refl _) (fun m => (lt_sl rfl (ty_S_THold.ltm _ _))) .nil)))))) .nil) (fun _ s3 h2 => ?_)
    rw [slices_Concat_Hold_L1] at h2
    refine AWp.seq ?_
    refine W.reg [0] rfl ?_
    refine S.sil 12 rfl rfl (fun _ hF => .lss (lk 0 rfl rfl) (lk 1 rfl rfl)) ?_
    refine S.nil ?_
    refine thenQ_n ?_
    refine AWp.seq ?_
    refine AWp.condM (lk 0 rfl rfl) h2 (fun c1 h2 => ?_) (fun c1 h2 => ?_)
    · skip
      refine AWp.skip ?_
      refine thenQ_n ?_
      refine AWp.seq ?_
      refine AWp.block ?_
      refine AWp.seq ?_
      refine W.reg [0, 1, 2] rfl ?_
      obtain ⟨j5, m5, h2⟩ := h2.bnd
      refine S.sil 13 rfl rfl (fun _ hF => .ixS sli114 (lk 3 rfl rfl) (lk 1 rfl rfl) m5) ?_
      refine S.sil 14 rfl rfl (fun _ hF => .loadC sz31 ag31 (lk 0 rfl rfl) rfl rfl) ?_
      refine S.sil 5 rfl rfl (fun _ hF => .assign (lk 0 rfl rfl)) ?_
      refine S.nil ?_
      refine thenQ_n ?_
      refine AWp.seq ?_
      refine W.reg [0, 1, 2, 3, 4] rfl ?_
      refine S.sil 15 rfl rfl (fun _ hF => .move (lk 7 rfl rfl)) ?_
      refine S.sil 16 rfl rfl (fun _ hF => .move (lk 1 rfl rfl)) ?_
      refine S.sil 17 rfl rfl (fun _ hF => .lenT sli31 (lk 0 rfl rfl) (vsub rfl (.refl _))) ?_
      refine S.sil 18 rfl rfl (fun _ hF => .add (lk 2 rfl rfl) (lk 0 rfl rfl)) ?_
      obtain ⟨v6, ev6, h2⟩ := h2.nam
      refine S.sil 3 rfl rfl (fun _ hF => .nv (.assign (lk 0 rfl rfl)) (congrArg (V.int .i64) ev6.symm)) ?_
      refine S.nil ?_
      refine thenQ_n ?_
      refine AWp.seq ?_
      refine W.reg [0, 1] rfl ?_
      refine S.sil 19 rfl rfl (fun _ hF => .move (lk 0 rfl rfl)) ?_
      refine S.sil 20 rfl rfl (fun _ hF => .lss (lk 0 rfl rfl) cI) ?_
      refine S.nil ?_
      refine thenQ_n ?_
      refine AWp.condM (lk 0 rfl rfl) h2 (fun c2 h2 => ?_) (fun c2 h2 => ?_)
      · skip
        exact h2.no.elim
      · skip
        refine AWp.skip ?_
        refine blockQ_n ?_
        refine thenQ_n ?_
        refine W.reg [0, 1] rfl ?_
        refine S.sil 22 rfl rfl (fun _ hF => .add (lk 11 rfl rfl) cI) ?_
        refine S.sil 11 rfl rfl (fun _ hF => .move (lk 0 rfl rfl)) ?_
        refine S.nil ?_
        refine thenQ_n ?_
        exact ⟨_, h2.ret, (Wk.selS [] (by decide) rfl (SelE.leaf (lk 0 rfl rfl) rfl (.refl _) (fun m => ((TyOk.int .i64).lt _ _)) (SelE.leaf (lk 14 rfl rfl) rfl (.refl _) (fun m => ((TyOk.int .i64).lt _ _)) (SelE.leaf (lk 15 rfl rfl) rfl (.refl _) (fun m => (lt_sl rfl (ty_S_THold.ltm _ _))) (SelE.leaf (lk 4 rfl rfl) rfl (.refl _) (fun m => ((TyOk.int .i64).lt _ _)) (SelE.leaf (lk 17 rfl rfl) rfl (.refl _) (fun m => rfl) (SelE.leaf (lk 18 rfl rfl) rfl (.refl _) (fun m => (lt_sl rfl (ty_S_THold.ltm _ _))) .nil)))))) .nil)⟩
    · skip
      refine AWp.exit ?_
      refine thenQ_x ?_
      refine thenQ_x ?_
      refine blockQ_x ?_
      refine thenQ_n ?_
      exact ⟨_, h2.ret, (Wk.selS [] (by decide) rfl (SelE.leaf (lk 4 rfl rfl) rfl (.refl _) (fun m => ((TyOk.int .i64).lt _ _)) (SelE.leaf (lk 5 rfl rfl) rfl (.refl _) (fun m => rfl) (SelE.leaf (lk 6 rfl rfl) rfl (.refl _) (fun m => (lt_sl rfl (ty_S_THold.ltm _ _))) .nil))) .nil)⟩
  · skip
    refine thenQ_n ?_
    refine AWp.seq ?_
    refine W.reg [0, 1, 2] rfl ?_
    refine S.sil 23 rfl rfl (fun _ hF => .move (lk 0 rfl rfl)) ?_
    obtain ⟨r7, m7, h⟩ := h.bnd
    refine S.eff 24 rfl rfl (.nf (v2 := .slo 5 0 [] 0 0 r7.length 1) (H2 := [.buf 5 (List.map E_THold r7)]) (.callN ent83 cF [] (C_slices_Grow_Hold_own m7) .nil .nil (ltL_c rfl (ltL_c ((TyOk.int .i64).lt _ _) ltL_nil)) (.c cNs (V.sub.refl _) (.c (lk 0 rfl rfl) (vsubr (V.sub.refl _) ((TyOk.int .i64).lt _ 0)) .nil)) rfl (mapc (ren_buf ty_THold _) rfl) rfl) rfl rfl) trivial ?_
    refine S.sil 6 rfl rfl (fun _ hF => .assign (lk 0 rfl rfl)) ?_
    refine S.nil ?_
    refine thenQ_n ?_
    refine AWp.seq ?_
    refine AWp.seq ?_
    refine W.reg [0, 1, 2] rfl ?_
    refine S.sil 25 rfl rfl (fun _ hF => .move (lk 5 rfl rfl)) ?_
    refine S.sil 26 rfl rfl (fun _ hF => .lenT sli114 (lk 0 rfl rfl) (vsub rfl (.refl _))) ?_
    refine S.sil 27 rfl rfl (fun _ hF => .move cI) ?_
    refine S.nil ?_
    refine thenQ_n ?_
    refine AWp.cutX (fun x10 => ⟨[(6, .slo 5 0 [] 0 0 x10.length 1), (2, .nils)], [.buf 5 (List.map E_THold x10)]⟩) nc_then h (fun q8 hq8 => ?_) (fun x10 h => ?_)
    · refine AWp.block ?_
      refine AWp.loopT (fun s9 => ⟨[(27, (V.int .i64) s9.1), (26, (V.int .i64) (a1.length : Int)), (25, .sl 1 .no (List.map E_S_THold a1)), (6, .slo 5 0 [] 0 0 s9.2.length 1), (2, .nils)], [.buf 5 (List.map E_THold s9.2)]⟩) hq8 (Wk.selS [0] (by decide) rfl (SelE.leaf (lk 0 rfl rfl) rfl (.refl _) (fun m => ((TyOk.int .i64).lt _ _)) (SelE.leaf (lk 1 rfl rfl) rfl (.refl _) (fun m => ((TyOk.int .i64).lt _ _)) (SelE.leaf (lk 2 rfl rfl) rfl (.refl _) (fun m => (lt_sl rfl (ty_S_THold.ltm _ _))) (SelE.spec (lk 3 rfl rfl) rfl (.slo (by first | rfl | simp)) rfl rfl (SelE.leaf (lk 7 rfl rfl) rfl (.refl _) (fun m => rfl) .nil))))) (.cons (lt_buf ty_THold) rfl ⟨rfl, RSubL.leafr ty_THold _ rfl⟩ .nil)) (fun _ s9 h8 => ?_)
      rw [slices_Concat_Hold_L2] at h8
      refine AWp.seq ?_
      refine W.reg [0] rfl ?_
      refine S.sil 28 rfl rfl (fun _ hF => .lss (lk 0 rfl rfl) (lk 1 rfl rfl)) ?_
      refine S.nil ?_
      refine thenQ_n ?_
      refine AWp.seq ?_
      refine AWp.condM (lk 0 rfl rfl) h8 (fun c3 h8 => ?_) (fun c3 h8 => ?_)
      · skip
        refine AWp.skip ?_
        refine thenQ_n ?_
        refine AWp.seq ?_
        refine AWp.block ?_
        refine AWp.seq ?_
        refine W.reg [0, 1, 2] rfl ?_
        obtain ⟨j11, m11, h8⟩ := h8.bnd
        refine S.sil 29 rfl rfl (fun _ hF => .ixS sli114 (lk 3 rfl rfl) (lk 1 rfl rfl) m11) ?_
        refine S.sil 30 rfl rfl (fun _ hF => .loadC sz31 ag31 (lk 0 rfl rfl) rfl rfl) ?_
        refine S.sil 8 rfl rfl (fun _ hF => .assign (lk 0 rfl rfl)) ?_
        refine S.nil ?_
        refine thenQ_n ?_
        refine W.reg [0, 1, 2, 3] rfl ?_
        refine S.sil 31 rfl rfl (fun _ hF => .move (lk 7 rfl rfl)) ?_
        refine S.sil 32 rfl rfl (fun _ hF => .move (lk 1 rfl rfl)) ?_
        obtain ⟨l12, m12, h8⟩ := h8.bnd
        refine S.eff 33 rfl rfl (.nf (v2 := .slo 5 1 [] 0 0 l12.length 1) (H2 := [.dead, .buf 5 (List.map E_THold l12)]) (.appOwnT sli31 und31 zv66 rfl (by decide) (lk 1 rfl rfl) rfl (by first | rfl | simp) (lk 0 rfl rfl) Rd.sl m12 rfl) rfl rfl) trivial ?_
        refine S.sil 6 rfl rfl (fun _ hF => .assign (lk 0 rfl rfl)) ?_
        refine S.nil ?_
        refine blockQ_n ?_
        refine thenQ_n ?_
        refine W.reg [0, 1] rfl ?_
        refine S.sil 34 rfl rfl (fun _ hF => .add (lk 8 rfl rfl) cI) ?_
        refine S.sil 27 rfl rfl (fun _ hF => .move (lk 0 rfl rfl)) ?_
        refine S.nil ?_
        refine thenQ_n ?_
        exact ⟨_, h8.ret, (Wk.selS [1] (by decide) rfl (SelE.leaf (lk 0 rfl rfl) rfl (.refl _) (fun m => ((TyOk.int .i64).lt _ _)) (SelE.leaf (lk 11 rfl rfl) rfl (.refl _) (fun m => ((TyOk.int .i64).lt _ _)) (SelE.leaf (lk 12 rfl rfl) rfl (.refl _) (fun m => (lt_sl rfl (ty_S_THold.ltm _ _))) (SelE.spec (lk 2 rfl rfl) rfl (.slo (by first | rfl | simp)) rfl rfl (SelE.leaf (lk 14 rfl rfl) rfl (.refl _) (fun m => rfl) .nil))))) (.cons (lt_buf ty_THold) rfl ⟨rfl, RSubL.leafr ty_THold _ rfl⟩ .nil))⟩
      · skip
        refine AWp.exit ?_
        refine thenQ_x ?_
        refine thenQ_x ?_
        refine blockQ_x ?_
        refine thenQ_n ?_
        exact ⟨_, h8.ret, (Wk.selS [0] (by decide) rfl (SelE.spec (lk 4 rfl rfl) rfl (.slo (by first | rfl | simp)) rfl rfl (SelE.leaf (lk 5 rfl rfl) rfl (.refl _) (fun m => rfl) .nil)) (.cons (lt_buf ty_THold) rfl ⟨rfl, RSubL.leafr ty_THold _ rfl⟩ .nil))⟩
    · skip
      refine thenQ_n ?_
      refine AWp.seq ?_
      refine W.reg [0, 1] rfl ?_
      refine S.sil 35 rfl rfl (fun _ hF => .move (lk 0 rfl rfl)) ?_
      refine S.sil 2 rfl rfl (fun _ hF => .assign (lk 0 rfl rfl)) ?_
      refine S.nil ?_
      refine thenQ_n ?_
      refine AWp.ret ?_
      refine endF_wk (Wk.freeze 0 rfl rfl (.cons (lk 0 rfl rfl) rfl (.slo (by first | rfl | simp)) (.same (lk 0 rfl rfl) .nil)) (.refl _)) ?_
      obtain rfl := h.ret
      exact endF1 rfl (Wk.selS [] .nil rfl (SelE.leaf (lk 0 rfl rfl) rfl (.refl _) (fun m => (ty_S_THold.lt _ _)) .nil) .nil) (.tmp (lk 0 rfl rfl) rfl) rfl rfl
theorem C_wire_Up {a1 : TField} {a2 : Twire_Residue} {r : TField × Int} (h : wire_Up a1 a2 = some r) : PureC Pg 16 [E_TField a1, E_Twire_Residue a2] (.tup [E_TField r.1, (V.int .i64) r.2]) := by
  refine PureC.ofF (CallSpec.of_bodyF 50 0 fn16 rfl rfl rfl (Nat.le_of_ble_eq_true rfl) ?_) (ltL_c (ty_TField.lt _ _) (ltL_c (ty_Twire_Residue.lt _ _) ltL_nil)) (lt_tup (ltL_c (ty_TField.lt _ _) (ltL_c ((TyOk.int .i64).lt _ _) ltL_nil)))
  replace h := Ok.of h
  unfold wire_Up at h
  refine AWp.seq ?_
  refine W.reg [0, 1, 2, 3] rfl ?_
  refine S.eff 2 rfl rfl (.nf (v2 := .ptr 0 [] 0) (H2 := [.cells (E_TField a1)]) (.box (lk 0 rfl rfl) rfl) rfl rfl) trivial ?_
  refine S.eff 3 rfl rfl (.nf (v2 := .ptr 1 [] 0) (H2 := [.cells (E_TField a1), .cells (E_Twire_Residue a2)]) (.box (lk 2 rfl rfl) rfl) rfl rfl) trivial ?_
  refine S.eff 4 rfl rfl (.nf (v2 := .ptr 2 [] 0) (H2 := [.cells (E_TField a1), .cells (E_Twire_Residue a2), .cells (.st [V.str (default : ByteArray), (V.int .i64) 0, (V.int .i64) 0, E_TCounter (default : TCounter), E_TLock (default : TLock), .nils])]) (.alloc zv33) rfl rfl) trivial ?_
  refine S.sil 5 rfl rfl (fun _ hF => .assign cI) ?_
  refine S.nil ?_
  refine thenQ_n ?_
  refine AWp.wk (Wk.freeze 1 rfl rfl (.same (lk 0 rfl rfl) (.same (lk 1 rfl rfl) (.cons (lk 2 rfl rfl) rfl (.ptr .nil (by first | rfl | omega)) (.same (lk 3 rfl rfl) .nil)))) (.refl _)) ?_
  refine AWp.seq ?_
  refine AWp.seq ?_
  refine W.reg [0, 1, 2, 3, 4, 5, 6, 7, 8, 9, 10, 11, 12, 13, 14, 15, 16, 17, 18, 19, 20, 21, 22, 23, 24] rfl ?_
  refine S.qui 6 rfl rfl (fun _ => .loadP sz33 ag33 (lk 3 rfl rfl) rfl .nil (by first | rfl | omega) (ty_TField.fl a1) rfl) ?_
  obtain ⟨r3, m3, h⟩ := h.bnd
  refine S.sil 7 rfl rfl (fun _ hF => .callQ ent36 cF (.c (lk 0 rfl rfl) (V.sub.refl _) .nil) (C_field_Right m3)) ?_
  refine S.sil 8 rfl rfl (fun _ hF => .not (lk 0 rfl rfl)) ?_
  refine S.sil 9 rfl rfl (fun _ hF => .move (lk 0 rfl rfl)) ?_
  refine S.gsil 10 3 9 false rfl rfl rfl (lk 0 rfl rfl) (fun hB _ hF => .fieldAddrC lay37 rfl rfl (lk 6 rfl rfl) rfl flL_nil) ?_
  refine S.gsil 11 3 9 false rfl rfl rfl (lk 1 rfl rfl) (fun hB _ hF => .loadC sz3 ag3 (ifT hB (lk 0 rfl rfl)) rfl rfl) ?_
  refine S.gsil 12 3 9 false rfl rfl rfl (lk 2 rfl rfl) (fun hB _ hF => .neq (ifT hB (lk 0 rfl rfl)) cI) ?_
  refine S.gsil 13 3 9 false rfl rfl rfl (lk 3 rfl rfl) (fun hB _ hF => .move (ifT hB (lk 0 rfl rfl))) ?_
  refine S.gsil2 14 7 13 true rfl rfl rfl (lk 0 rfl rfl) (fun hB _ hF => .fieldAddr lay33 rfl rfl (lk 11 rfl rfl)) ?_
  refine S.gqui2 15 7 13 true rfl rfl rfl (lk 1 rfl rfl) (fun hB _ => .loadP sz3 ag3 (ifT hB (lk 0 rfl rfl)) rfl (.st rfl (flL_c (show flen _ = 1 from rfl) (flL_c (show flen _ = 1 from rfl) flL_nil)) .nil) (by first | rfl | omega) rfl rfl) ?_
  refine S.gsil2 16 7 13 true rfl rfl rfl (lk 2 rfl rfl) (fun hB _ hF => .neq (ifT hB (lk 0 rfl rfl)) cI) ?_
  refine S.gsil 17 3 9 false rfl rfl rfl (lk 7 rfl rfl) (fun hB _ hF => .pickAnd (ifT hB (lk 3 rfl rfl)) (fun h => ifT ⟨hB, h⟩ (lk 0 rfl rfl)) cB) ?_
  refine S.sil 18 rfl rfl (fun _ hF => .pickOr (lk 8 rfl rfl) cB (fun h => ifT h (lk 0 rfl rfl))) ?_
  refine S.sil 19 rfl rfl (fun _ hF => .move (lk 0 rfl rfl)) ?_
  refine S.gsil 20 13 19 false rfl rfl rfl (lk 0 rfl rfl) (fun hB _ hF => .fieldAddrC lay37 rfl rfl (lk 16 rfl rfl) rfl (flL_c (show flen _ = 1 from rfl) flL_nil)) ?_
  refine S.gsil 21 13 19 false rfl rfl rfl (lk 1 rfl rfl) (fun hB _ hF => .loadC sz31 ag31 (ifT hB (lk 0 rfl rfl)) rfl rfl) ?_
  refine S.gsil 22 13 19 false rfl rfl rfl (lk 2 rfl rfl) (fun hB _ hF => .lenT sli31 (ifT hB (lk 0 rfl rfl)) (vsub rfl (.refl _))) ?_
  refine S.gsil 23 13 19 false rfl rfl rfl (lk 3 rfl rfl) (fun hB _ hF => .gtr (ifT hB (lk 0 rfl rfl)) cI) ?_
  refine S.gsil 24 13 19 false rfl rfl rfl (lk 4 rfl rfl) (fun hB _ hF => .move (ifT hB (lk 0 rfl rfl))) ?_
  refine S.gsil2 25 18 24 true rfl rfl rfl (lk 0 rfl rfl) (fun hB _ hF => .fieldAddr lay33 rfl rfl (lk 22 rfl rfl)) ?_
  refine S.gqui2 26 18 24 true rfl rfl rfl (lk 1 rfl rfl) (fun hB _ => .loadP sz31 ag31 (ifT hB (lk 0 rfl rfl)) rfl (.st rfl (flL_c (show flen _ = 1 from rfl) (flL_c (show flen _ = 1 from rfl) (flL_c (show flen _ = 1 from rfl) (flL_c (ty_TCounter.fl a1.Counter) (flL_c (ty_TLock.fl a1.Lock) flL_nil))))) .nil) (by first | rfl | omega) rfl rfl) ?_
  refine S.gsil2 27 18 24 true rfl rfl rfl (lk 2 rfl rfl) (fun hB _ hF => .lenT sli31 (ifT hB (lk 0 rfl rfl)) (vsub rfl (.refl _))) ?_
  refine S.gsil2 28 18 24 true rfl rfl rfl (lk 3 rfl rfl) (fun hB _ hF => .gtr (ifT hB (lk 0 rfl rfl)) cI) ?_
  refine S.gsil 29 13 19 false rfl rfl rfl (lk 9 rfl rfl) (fun hB _ hF => .pickAnd (ifT hB (lk 4 rfl rfl)) (fun h => ifT ⟨hB, h⟩ (lk 0 rfl rfl)) cB) ?_
  obtain ⟨v4, ev4, h⟩ := h.nam
  refine S.sil 30 rfl rfl (fun _ hF => .nv (.pickOr (lk 10 rfl rfl) cB (fun h => ifT h (lk 0 rfl rfl))) (congrArg V.bool ev4.symm)) ?_
  refine S.nil ?_
  refine thenQ_n ?_
  refine AWp.prune (.eq (lk 0 rfl rfl) rfl (.eq (lk 25 rfl rfl) rfl (.eq (lk 26 rfl rfl) rfl (.eq (lk 27 rfl rfl) rfl (.eq (lk 28 rfl rfl) rfl .nil))))) ?_
  refine AWp.condM (lk 0 rfl rfl) h (fun c1 h => ?_) (fun c1 h => ?_)
  · skip
    refine AWp.seq ?_
    refine W.reg [0, 1, 2] rfl ?_
    obtain ⟨v5, ev5, h⟩ := h.nam
    refine S.sil 31 rfl rfl (fun _ hF => .nv (.vs (v := .st [V.str (default : ByteArray), (V.int .i64) 0, (V.int .i64) 0, E_TCounter (default : TCounter), E_TLock (default : TLock), .nils]) (v2 := E_TField (⟨(default : ByteArray), 0, 0, (default : TCounter), (default : TLock), ([] : List THold)⟩ : TField)) (.buildStW lay33 zv33 rfl .nil) rfl (.st (.cons (.refl _) (.cons (.refl _) (.cons (.refl _) (.cons (.refl _) (.cons (.refl _) (.cons (.nils_no _) .nil)))))))) (congrArg E_TField ev5.symm)) ?_
    refine S.effN rfl rfl (.nf (H2 := [.cells (E_TField a1), .dead, .cells (E_TField v5)]) (.storeP sz33 (lk 3 rfl rfl) (lk 0 rfl rfl) rfl (.refl _) rfl .nil (by first | rfl | omega) .nil (ty_TField.fl v5) (fl_st (flL_c (show flen _ = 1 from rfl) (flL_c (show flen _ = 1 from rfl) (flL_c (show flen _ = 1 from rfl) (flL_c (ty_TCounter.fl (default : TCounter)) (flL_c (ty_TLock.fl (default : TLock)) (flL_c (show flen _ = 1 from rfl) flL_nil))))))) rfl) rfl rfl) trivial ?_
    refine S.sil 5 rfl rfl (fun _ hF => .assign cI) ?_
    refine S.nil ?_
    refine thenQ_n ?_
    refine AWp.ret ?_
    refine thenQ_r ?_
    refine endF_wk (Wk.freeze 2 rfl rfl (.same (lk 0 rfl rfl) (.same (lk 0 rfl rfl) (.cons (lk 4 rfl rfl) rfl (.ptr .nil (by first | rfl | omega)) .nil))) (.refl _)) ?_
    obtain rfl := h.ret
    exact endFN rfl (Wk.selS [] .nil rfl (SelE.leaf (lk 2 rfl rfl) rfl (.refl _) (fun m => (lt_cptr (ty_TField.lt _ _))) (SelE.leaf (lk 0 rfl rfl) rfl (.refl _) (fun m => ((TyOk.int .i64).lt _ _)) .nil)) .nil) (.cons (.cellC sz33 ag33 (lk 0 rfl rfl) (ty_TField.fl _) rfl) (.cons (.tmp (lk 1 rfl rfl) rfl) .nil)) rfl rfl rfl
  · skip
    refine AWp.skip ?_
    refine thenQ_n ?_
    refine AWp.seq ?_
    refine W.reg [0, 1, 2, 3, 4, 5, 6, 7] rfl ?_
    refine S.sil 32 rfl rfl (fun _ hF => .fieldAddr lay33 rfl rfl (lk 4 rfl rfl)) ?_
    refine S.qui 33 rfl rfl (fun _ => .loadP sz31 ag31 (lk 0 rfl rfl) rfl (.st rfl (flL_c (show flen _ = 1 from rfl) (flL_c (show flen _ = 1 from rfl) (flL_c (show flen _ = 1 from rfl) (flL_c (ty_TCounter.fl a1.Counter) (flL_c (ty_TLock.fl a1.Lock) flL_nil))))) .nil) (by first | rfl | omega) rfl rfl) ?_
    refine S.sil 34 rfl rfl (fun _ hF => .fieldAddrC lay37 rfl rfl (lk 5 rfl rfl) rfl (flL_c (show flen _ = 1 from rfl) flL_nil)) ?_
    refine S.sil 35 rfl rfl (fun _ hF => .loadC sz31 ag31 (lk 0 rfl rfl) rfl rfl) ?_
    refine S.sil 36 rfl rfl (fun _ hF => .buildSliceW sli114 zv31 rfl rfl (by decide) (.cons (lk 2 rfl rfl) rfl (.refl _) rfl (.cons (lk 0 rfl rfl) rfl (.refl _) rfl .nil))) ?_
    obtain ⟨r6, m6, h⟩ := h.bnd
    refine S.sil 37 rfl rfl (fun _ hF => .callQ ent44 cF (.c (lk 0 rfl rfl) (vsub rfl (.forget _ _ _)) .nil) (C_slices_Concat_Hold m6)) ?_
    refine S.sil 38 rfl rfl (fun _ hF => .fieldAddr lay33 rfl rfl (lk 10 rfl rfl)) ?_
    obtain ⟨v7, ev7, h⟩ := h.nam
    refine S.effN rfl rfl (.nf (H2 := [.cells (E_TField v7), .dead, .cells (.st [V.str (default : ByteArray), (V.int .i64) 0, (V.int .i64) 0, E_TCounter (default : TCounter), E_TLock (default : TLock), .nils])]) (.storeP sz31 (lk 0 rfl rfl) (lk 1 rfl rfl) rfl (.refl _) rfl (.st rfl (flL_c (show flen _ = 1 from rfl) (flL_c (show flen _ = 1 from rfl) (flL_c (show flen _ = 1 from rfl) (flL_c (ty_TCounter.fl a1.Counter) (flL_c (ty_TLock.fl a1.Lock) flL_nil))))) .nil) (by first | rfl | omega) (.st rfl .nil rfl) rfl rfl (congrArg (fun z => ([AObj.cells (E_TField z), .dead, .cells (.st [V.str (default : ByteArray), (V.int .i64) 0, (V.int .i64) 0, E_TCounter (default : TCounter), E_TLock (default : TLock), .nils])] : List AObj)) ev7.symm)) rfl rfl) trivial ?_
    refine S.nil ?_
    refine thenQ_n ?_
    refine AWp.seq ?_
    refine W.reg [0, 1, 2, 3, 4, 5, 6] rfl ?_
    refine S.sil 39 rfl rfl (fun _ hF => .fieldAddr lay33 rfl rfl (lk 11 rfl rfl)) ?_
    refine S.qui 40 rfl rfl (fun _ => .loadP sz3 ag3 (lk 0 rfl rfl) rfl (.st rfl (flL_c (show flen _ = 1 from rfl) (flL_c (show flen _ = 1 from rfl) flL_nil)) .nil) (by first | rfl | omega) rfl rfl) ?_
    refine S.sil 41 rfl rfl (fun _ hF => .fieldAddrC lay37 rfl rfl (lk 12 rfl rfl) rfl flL_nil) ?_
    refine S.sil 42 rfl rfl (fun _ hF => .loadC sz3 ag3 (lk 0 rfl rfl) rfl rfl) ?_
    refine S.sil 43 rfl rfl (fun _ hF => .add (lk 2 rfl rfl) (lk 0 rfl rfl)) ?_
    refine S.sil 44 rfl rfl (fun _ hF => .fieldAddr lay33 rfl rfl (lk 16 rfl rfl)) ?_
    obtain ⟨v8, ev8, h⟩ := h.nam
    refine S.effN rfl rfl (.nf (H2 := [.cells (E_TField v8), .dead, .cells (.st [V.str (default : ByteArray), (V.int .i64) 0, (V.int .i64) 0, E_TCounter (default : TCounter), E_TLock (default : TLock), .nils])]) (.storeP sz3 (lk 0 rfl rfl) (lk 1 rfl rfl) rfl (.refl _) rfl (.st rfl (flL_c (show flen _ = 1 from rfl) (flL_c (show flen _ = 1 from rfl) flL_nil)) .nil) (by first | rfl | omega) (.st rfl .nil rfl) rfl rfl (congrArg (fun z => ([AObj.cells (E_TField z), .dead, .cells (.st [V.str (default : ByteArray), (V.int .i64) 0, (V.int .i64) 0, E_TCounter (default : TCounter), E_TLock (default : TLock), .nils])] : List AObj)) ev8.symm)) rfl rfl) trivial ?_
    refine S.nil ?_
    refine thenQ_n ?_
    refine AWp.prune (.eq (lk 14 rfl rfl) rfl (.eq (lk 15 rfl rfl) rfl (.eq (lk 17 rfl rfl) rfl .nil))) ?_
    refine AWp.seq ?_
    refine AWp.seq ?_
    refine W.reg [0, 1, 2] rfl ?_
    refine S.qui 45 rfl rfl (fun _ => .loadP sz33 ag33 (lk 2 rfl rfl) rfl .nil (by first | rfl | omega) (ty_TField.fl v8) rfl) ?_
    obtain ⟨r9, m9, h⟩ := h.bnd
    refine S.sil 46 rfl rfl (fun _ hF => .callQ ent36 cF (.c (lk 0 rfl rfl) (V.sub.refl _) .nil) (C_field_Right m9)) ?_
    refine S.sil 47 rfl rfl (fun _ hF => .not (lk 0 rfl rfl)) ?_
    refine S.nil ?_
    refine thenQ_n ?_
    refine AWp.condM (lk 0 rfl rfl) h (fun c2 h => ?_) (fun c2 h => ?_)
    · skip
      refine AWp.seq ?_
      refine W.reg [0, 1, 2] rfl ?_
      obtain ⟨v10, ev10, h⟩ := h.nam
      refine S.sil 48 rfl rfl (fun _ hF => .nv (.vs (v := .st [V.str (default : ByteArray), (V.int .i64) 0, (V.int .i64) 0, E_TCounter (default : TCounter), E_TLock (default : TLock), .nils]) (v2 := E_TField (⟨(default : ByteArray), 0, 0, (default : TCounter), (default : TLock), ([] : List THold)⟩ : TField)) (.buildStW lay33 zv33 rfl .nil) rfl (.st (.cons (.refl _) (.cons (.refl _) (.cons (.refl _) (.cons (.refl _) (.cons (.refl _) (.cons (.nils_no _) .nil)))))))) (congrArg E_TField ev10.symm)) ?_
      refine S.effN rfl rfl (.nf (H2 := [.cells (E_TField v8), .dead, .cells (E_TField v10)]) (.storeP sz33 (lk 5 rfl rfl) (lk 0 rfl rfl) rfl (.refl _) rfl .nil (by first | rfl | omega) .nil (ty_TField.fl v10) (fl_st (flL_c (show flen _ = 1 from rfl) (flL_c (show flen _ = 1 from rfl) (flL_c (show flen _ = 1 from rfl) (flL_c (ty_TCounter.fl (default : TCounter)) (flL_c (ty_TLock.fl (default : TLock)) (flL_c (show flen _ = 1 from rfl) flL_nil))))))) rfl) rfl rfl) trivial ?_
      refine S.sil 5 rfl rfl (fun _ hF => .assign cI) ?_
      refine S.nil ?_
      refine thenQ_n ?_
      refine AWp.ret ?_
      refine thenQ_r ?_
      refine endF_wk (Wk.freeze 2 rfl rfl (.same (lk 0 rfl rfl) (.same (lk 0 rfl rfl) (.cons (lk 6 rfl rfl) rfl (.ptr .nil (by first | rfl | omega)) .nil))) (.refl _)) ?_
      obtain rfl := h.ret
      exact endFN rfl (Wk.selS [] .nil rfl (SelE.leaf (lk 2 rfl rfl) rfl (.refl _) (fun m => (lt_cptr (ty_TField.lt _ _))) (SelE.leaf (lk 0 rfl rfl) rfl (.refl _) (fun m => ((TyOk.int .i64).lt _ _)) .nil)) .nil) (.cons (.cellC sz33 ag33 (lk 0 rfl rfl) (ty_TField.fl _) rfl) (.cons (.tmp (lk 1 rfl rfl) rfl) .nil)) rfl rfl rfl
    · skip
      refine AWp.skip ?_
      refine thenQ_n ?_
      refine AWp.seq ?_
      refine W.reg [0, 1, 2] rfl ?_
      refine S.qui 49 rfl rfl (fun _ => .loadP sz33 ag33 (lk 5 rfl rfl) rfl .nil (by first | rfl | omega) (ty_TField.fl v8) rfl) ?_
      refine S.effN rfl rfl (.nf (H2 := [.cells (E_TField v8), .dead, .cells (E_TField v8)]) (.storeP sz33 (lk 5 rfl rfl) (lk 0 rfl rfl) rfl (.refl _) rfl .nil (by first | rfl | omega) .nil (ty_TField.fl v8) (fl_st (flL_c (show flen _ = 1 from rfl) (flL_c (show flen _ = 1 from rfl) (flL_c (show flen _ = 1 from rfl) (flL_c (ty_TCounter.fl (default : TCounter)) (flL_c (ty_TLock.fl (default : TLock)) (flL_c (show flen _ = 1 from rfl) flL_nil))))))) rfl) rfl rfl) trivial ?_
      refine S.sil 5 rfl rfl (fun _ hF => .assign cI) ?_
      refine S.nil ?_
      refine thenQ_n ?_
      refine AWp.ret ?_
      refine endF_wk (Wk.freeze 2 rfl rfl (.same (lk 0 rfl rfl) (.same (lk 0 rfl rfl) (.cons (lk 6 rfl rfl) rfl (.ptr .nil (by first | rfl | omega)) .nil))) (.refl _)) ?_
      obtain rfl := h.ret
      exact endFN rfl (Wk.selS [] .nil rfl (SelE.leaf (lk 2 rfl rfl) rfl (.refl _) (fun m => (lt_cptr (ty_TField.lt _ _))) (SelE.leaf (lk 0 rfl rfl) rfl (.refl _) (fun m => ((TyOk.int .i64).lt _ _)) .nil)) .nil) (.cons (.cellC sz33 ag33 (lk 0 rfl rfl) (ty_TField.fl _) rfl) (.cons (.tmp (lk 1 rfl rfl) rfl) .nil)) rfl rfl rfl
theorem C_wire_says  {r : Unit} (h : wire_says = some r) : CallSpec Pg 45 [] [] fun o H' => o = .ret (.map 0) ∧ H' = [.map (encC [(1, .fn 84 [] []), (2, .fn 85 [] []), (3, .fn 86 [] [])])] := by
  refine CallSpec.of_bodyF 3 0 fn45 rfl rfl rfl (Nat.le_of_ble_eq_true rfl) ?_
  replace h := Ok.of h
  unfold wire_says at h
  refine AWp.seq ?_
  refine W.reg [0] rfl ?_
  refine S.sil 0 rfl rfl (fun _ hF => .assign cNm) ?_
  refine S.nil ?_
  refine thenQ_n ?_
  refine AWp.seq ?_
  refine W.reg [0, 1, 2, 3, 4, 5] rfl ?_
  refine S.eff 1 rfl rfl (.nf (v2 := .map 0) (H2 := [.map (encC [])]) (.makeMap) rfl rfl) trivial ?_
  refine S.effN rfl rfl (.nf (H2 := [.map (encC [(1, .fn 84 [] [])])]) (.insC und81 und3 (lk 0 rfl rfl) cI cF rfl rfl rfl (by decide) rfl rfl) rfl rfl) trivial ?_
  refine S.effN rfl rfl (.nf (H2 := [.map (encC [(1, .fn 84 [] []), (2, .fn 85 [] [])])]) (.insC und81 und3 (lk 0 rfl rfl) cI cF rfl rfl rfl (by decide) rfl rfl) rfl rfl) trivial ?_
  refine S.effN rfl rfl (.nf (H2 := [.map (encC [(1, .fn 84 [] []), (2, .fn 85 [] []), (3, .fn 86 [] [])])]) (.insC und81 und3 (lk 0 rfl rfl) cI cF rfl rfl rfl (by decide) rfl rfl) rfl rfl) trivial ?_
  refine S.sil 2 rfl rfl (fun _ hF => .move (lk 0 rfl rfl)) ?_
  refine S.sil 0 rfl rfl (fun _ hF => .assign (lk 0 rfl rfl)) ?_
  refine S.nil ?_
  refine thenQ_n ?_
  refine AWp.ret ?_
  obtain rfl := h.ret
  exact endF1 rfl (Wk.selS [0] (by decide) rfl (SelE.spec (v := .map 0) (lk 0 rfl rfl) rfl (.refl _) rfl rfl .nil) (.cons rfl rfl (ASub.refl _) .nil)) (.tmp (lk 0 rfl rfl) rfl) rfl rfl
theorem C_wire_says_1 {a1 : TField} {r : Bool} (h : wire_says_1 a1 = some r) : PureC Pg 84 [E_TField a1] (V.bool r) := by
  refine PureC.ofF (CallSpec.of_bodyF 12 0 fn84 rfl rfl rfl (Nat.le_of_ble_eq_true rfl) ?_) (ltL_c (ty_TField.lt _ _) ltL_nil) (TyOk.bool.lt _ _)
  replace h := Ok.of h
  unfold wire_says_1 at h
  refine AWp.seq ?_
  refine W.reg [0, 1] rfl ?_
  refine S.eff 1 rfl rfl (.nf (v2 := .ptr 0 [] 0) (H2 := [.cells (E_TField a1)]) (.box (lk 0 rfl rfl) rfl) rfl rfl) trivial ?_
  refine S.sil 2 rfl rfl (fun _ hF => .assign cB) ?_
  refine S.nil ?_
  refine thenQ_n ?_
  refine AWp.wk (Wk.freeze 0 rfl rfl (.same (lk 0 rfl rfl) (.cons (lk 1 rfl rfl) rfl (.ptr .nil (by first | rfl | omega)) .nil)) (.refl _)) ?_
  refine AWp.seq ?_
  refine W.reg [0, 1, 2, 3, 4, 5, 6, 7, 8, 9] rfl ?_
  refine S.sil 3 rfl rfl (fun _ hF => .fieldAddrC lay33 rfl rfl (lk 1 rfl rfl) rfl (flL_c (show flen _ = 1 from rfl) (flL_c (show flen _ = 1 from rfl) flL_nil))) ?_
  refine S.sil 4 rfl rfl (fun _ hF => .loadC sz3 ag3 (lk 0 rfl rfl) rfl rfl) ?_
  refine S.sil 5 rfl rfl (fun _ hF => .eql (lk 0 rfl rfl) cI) ?_
  refine S.sil 6 rfl rfl (fun _ hF => .move (lk 0 rfl rfl)) ?_
  refine S.gsil 7 3 6 true rfl rfl rfl (lk 0 rfl rfl) (fun hB _ hF => .fieldAddrC lay33 rfl rfl (lk 5 rfl rfl) rfl (flL_c (show flen _ = 1 from rfl) (flL_c (show flen _ = 1 from rfl) (flL_c (show flen _ = 1 from rfl) (flL_c (ty_TCounter.fl a1.Counter) (flL_c (ty_TLock.fl a1.Lock) flL_nil)))))) ?_
  refine S.gsil 8 3 6 true rfl rfl rfl (lk 1 rfl rfl) (fun hB _ hF => .loadC sz31 ag31 (ifT hB (lk 0 rfl rfl)) rfl rfl) ?_
  refine S.gsil 9 3 6 true rfl rfl rfl (lk 2 rfl rfl) (fun hB _ hF => .lenT sli31 (ifT hB (lk 0 rfl rfl)) (vsub rfl (.refl _))) ?_
  refine S.gsil 10 3 6 true rfl rfl rfl (lk 3 rfl rfl) (fun hB _ hF => .eql (ifT hB (lk 0 rfl rfl)) cI) ?_
  refine S.sil 11 rfl rfl (fun _ hF => .pickAnd (lk 4 rfl rfl) (fun h => ifT h (lk 0 rfl rfl)) cB) ?_
  obtain ⟨v2, ev2, h⟩ := h.nam
  refine S.sil 2 rfl rfl (fun _ hF => .nv (.assign (lk 0 rfl rfl)) (congrArg V.bool ev2.symm)) ?_
  refine S.nil ?_
  refine thenQ_n ?_
  refine AWp.prune (.eq (lk 0 rfl rfl) rfl .nil) ?_
  refine AWp.ret ?_
  obtain rfl := h.ret
  exact endF1 rfl (Wk.selS [] .nil rfl (SelE.leaf (lk 0 rfl rfl) rfl (.refl _) (fun m => (TyOk.bool.lt _ _)) .nil) .nil) (.tmp (lk 0 rfl rfl) rfl) rfl rfl
theorem C_wire_says_2 {a1 : TField} {r : Bool} (h : wire_says_2 a1 = some r) : PureC Pg 85 [E_TField a1] (V.bool r) := by
  refine PureC.ofF (CallSpec.of_bodyF 6 0 fn85 rfl rfl rfl (Nat.le_of_ble_eq_true rfl) ?_) (ltL_c (ty_TField.lt _ _) ltL_nil) (TyOk.bool.lt _ _)
  replace h := Ok.of h
  unfold wire_says_2 at h
  refine AWp.seq ?_
  refine W.reg [0, 1] rfl ?_
  refine S.eff 1 rfl rfl (.nf (v2 := .ptr 0 [] 0) (H2 := [.cells (E_TField a1)]) (.box (lk 0 rfl rfl) rfl) rfl rfl) trivial ?_
  refine S.sil 2 rfl rfl (fun _ hF => .assign cB) ?_
  refine S.nil ?_
  refine thenQ_n ?_
  refine AWp.wk (Wk.freeze 0 rfl rfl (.same (lk 0 rfl rfl) (.cons (lk 1 rfl rfl) rfl (.ptr .nil (by first | rfl | omega)) .nil)) (.refl _)) ?_
  refine AWp.seq ?_
  refine W.reg [0, 1, 2, 3] rfl ?_
  refine S.sil 3 rfl rfl (fun _ hF => .fieldAddrC lay33 rfl rfl (lk 1 rfl rfl) rfl (flL_c (show flen _ = 1 from rfl) (flL_c (show flen _ = 1 from rfl) flL_nil))) ?_
  refine S.sil 4 rfl rfl (fun _ hF => .loadC sz3 ag3 (lk 0 rfl rfl) rfl rfl) ?_
  refine S.sil 5 rfl rfl (fun _ hF => .eql (lk 0 rfl rfl) cI) ?_
  refine S.sil 2 rfl rfl (fun _ hF => .assign (lk 0 rfl rfl)) ?_
  refine S.nil ?_
  refine thenQ_n ?_
  refine AWp.ret ?_
  obtain rfl := h.ret
  exact endF1 rfl (Wk.selS [] .nil rfl (SelE.leaf (lk 0 rfl rfl) rfl (.refl _) (fun m => (TyOk.bool.lt _ _)) .nil) .nil) (.tmp (lk 0 rfl rfl) rfl) rfl rfl
theorem C_wire_says_3 {a1 : TField} {r : Bool} (h : wire_says_3 a1 = some r) : PureC Pg 86 [E_TField a1] (V.bool r) := by
  refine PureC.ofF (CallSpec.of_bodyF 3 0 fn86 rfl rfl rfl (Nat.le_of_ble_eq_true rfl) ?_) (ltL_c (ty_TField.lt _ _) ltL_nil) (TyOk.bool.lt _ _)
  replace h := Ok.of h
  unfold wire_says_3 at h
  refine AWp.seq ?_
  refine W.reg [0, 1] rfl ?_
  refine S.eff 1 rfl rfl (.nf (v2 := .ptr 0 [] 0) (H2 := [.cells (E_TField a1)]) (.box (lk 0 rfl rfl) rfl) rfl rfl) trivial ?_
  refine S.sil 2 rfl rfl (fun _ hF => .assign cB) ?_
  refine S.nil ?_
  refine thenQ_n ?_
  refine AWp.wk (Wk.freeze 0 rfl rfl (.same (lk 0 rfl rfl) .nil) (.refl _)) ?_
  refine AWp.seq ?_
  refine W.reg [0] rfl ?_
  refine S.sil 2 rfl rfl (fun _ hF => .assign cB) ?_
  refine S.nil ?_
  refine thenQ_n ?_
  refine AWp.ret ?_
  obtain rfl := h.ret
  exact endF1 rfl (Wk.selS [] .nil rfl (SelE.leaf (lk 0 rfl rfl) rfl (.refl _) (fun m => (TyOk.bool.lt _ _)) .nil) .nil) (.tmp (lk 0 rfl rfl) rfl) rfl rfl
theorem C_wire_Says {a1 : Int} {a2 : TField} {r : Bool} (h : wire_Says a1 a2 = some r) : PureC Pg 18 [(V.int .i64) a1, E_TField a2] (V.bool r) := by
  refine PureC.ofF (CallSpec.of_bodyF 18 0 fn18 rfl rfl rfl (Nat.le_of_ble_eq_true rfl) ?_) (ltL_c ((TyOk.int .i64).lt _ _) (ltL_c (ty_TField.lt _ _) ltL_nil)) (TyOk.bool.lt _ _)
  replace h := Ok.of h
  unfold wire_Says at h
  refine AWp.seq ?_
  refine W.reg [0, 1] rfl ?_
  refine S.eff 3 rfl rfl (.nf (v2 := .ptr 0 [] 0) (H2 := [.cells (E_TField a2)]) (.box (lk 1 rfl rfl) rfl) rfl rfl) trivial ?_
  refine S.sil 4 rfl rfl (fun _ hF => .assign cB) ?_
  refine S.nil ?_
  refine thenQ_n ?_
  refine AWp.wk (Wk.freeze 0 rfl rfl (.same (lk 0 rfl rfl) (.cons (lk 1 rfl rfl) rfl (.ptr .nil (by first | rfl | omega)) (.same (lk 2 rfl rfl) .nil))) (.refl _)) ?_
  refine AWp.seq ?_
  refine W.regD [0, 1, 2, 3, 4, 5, 6, 7, 8, 9, 10, 11, 12, 13] mixed ?_
  refine S.sil 5 rfl rfl (fun _ hF => .loadC sz33 ag33 (lk 1 rfl rfl) (ty_TField.fl a2) rfl) ?_
  obtain ⟨r3, m3, h⟩ := h.bnd
  refine S.sil 6 rfl rfl (fun _ hF => .callQ ent36 cF (.c (lk 0 rfl rfl) (V.sub.refl _) .nil) (C_field_Right m3)) ?_
  refine S.sil 7 rfl rfl (fun _ hF => .move (lk 0 rfl rfl)) ?_
  refine S.gsil 8 2 7 true rfl rfl rfl (lk 0 rfl rfl) (fun hB _ hF => .move (lk 5 rfl rfl)) ?_
  obtain ⟨r4, m4, h⟩ := h.bnd
  refine S.gsil 9 2 7 true rfl rfl rfl (lk 1 rfl rfl) (fun hB _ hF => .callQ ent37 cF (.c (ifT hB (lk 0 rfl rfl)) (V.sub.refl _) .nil) (C_wire_is (gd_get m4 hB))) ?_
  refine S.sil 10 rfl rfl (fun _ hF => .pickAnd (lk 2 rfl rfl) (fun h => ifT h (lk 0 rfl rfl)) cB) ?_
  refine S.sil 11 rfl rfl (fun _ hF => .move (lk 0 rfl rfl)) ?_
  refine Ok.spl h (fun c1 h => ?_) (fun c1 h => ?_)
  · skip
    obtain ⟨u5, m5, h⟩ := h.bnd
    refine S.yeff 12 6 11 true rfl rfl rfl ((lk 0 rfl rfl).trans (congrArg V.bool c1)) (.callN ent45 cF [] (C_wire_says m5) .nil .nil ltL_nil .nil rfl (mapc rfl rfl) rfl) trivial ?_
    refine S.ysil 13 6 11 true rfl rfl rfl ((lk 1 rfl rfl).trans (congrArg V.bool c1)) (fun _ hF => .move (lk 10 rfl rfl)) ?_
    obtain ⟨u6, m6, h⟩ := h.bnd
    refine Ok.spl h (fun c2 h => ?_) (fun c2 h => ?_)
    · skip
      refine S.yqui 14 6 11 true rfl rfl rfl ((lk 2 rfl rfl).trans (congrArg V.bool c1)) (fun _ => .lookV (es := [(1, .fn 84 [] []), (2, .fn 85 [] []), (3, .fn 86 [] [])]) und81 und3 zv41 (lk 1 rfl rfl) (lk 0 rfl rfl) rfl (i64M_get m6) rfl (by decide) (of_decide_eq_true c2) (List.Mem.head _) rfl) ?_
      refine S.ysil 15 6 11 true rfl rfl rfl ((lk 3 rfl rfl).trans (congrArg V.bool c1)) (fun _ hF => .loadC sz33 ag33 (lk 11 rfl rfl) (ty_TField.fl a2) rfl) ?_
      obtain ⟨r7, m7, h⟩ := h.bnd
      refine S.ysil 16 6 11 true rfl rfl rfl ((lk 4 rfl rfl).trans (congrArg V.bool c1)) (fun _ hF => .callQ ent84 (lk 1 rfl rfl) (.c (lk 0 rfl rfl) (V.sub.refl _) .nil) (C_wire_says_1 m7)) ?_
      refine S.sil 17 rfl rfl (fun _ hF => .pickT ((lk 5 rfl rfl).trans (congrArg V.bool c1)) (lk 0 rfl rfl)) ?_
      refine S.sil 4 rfl rfl (fun _ hF => .assign (lk 0 rfl rfl)) ?_
      refine S.nilD (by kernel_rfl) ?_
      refine thenQ_n ?_
      refine AWp.prune (.eq (lk 0 rfl rfl) rfl .nil) ?_
      refine AWp.ret ?_
      obtain rfl := h.ret
      exact endF1 rfl (Wk.selS [] .nil rfl (SelE.leaf (lk 0 rfl rfl) rfl (.refl _) (fun m => (TyOk.bool.lt _ _)) .nil) .nil) (.tmp (lk 0 rfl rfl) rfl) rfl rfl
    · skip
      refine Ok.spl h (fun c3 h => ?_) (fun c3 h => ?_)
      · skip
        refine S.yqui 14 6 11 true rfl rfl rfl ((lk 2 rfl rfl).trans (congrArg V.bool c1)) (fun _ => .lookV (es := [(1, .fn 84 [] []), (2, .fn 85 [] []), (3, .fn 86 [] [])]) und81 und3 zv41 (lk 1 rfl rfl) (lk 0 rfl rfl) rfl (i64M_get m6) rfl (by decide) (of_decide_eq_true c3) (List.Mem.tail _ (List.Mem.head _)) rfl) ?_
        refine S.ysil 15 6 11 true rfl rfl rfl ((lk 3 rfl rfl).trans (congrArg V.bool c1)) (fun _ hF => .loadC sz33 ag33 (lk 11 rfl rfl) (ty_TField.fl a2) rfl) ?_
        obtain ⟨r8, m8, h⟩ := h.bnd
        refine S.ysil 16 6 11 true rfl rfl rfl ((lk 4 rfl rfl).trans (congrArg V.bool c1)) (fun _ hF => .callQ ent85 (lk 1 rfl rfl) (.c (lk 0 rfl rfl) (V.sub.refl _) .nil) (C_wire_says_2 m8)) ?_
        refine S.sil 17 rfl rfl (fun _ hF => .pickT ((lk 5 rfl rfl).trans (congrArg V.bool c1)) (lk 0 rfl rfl)) ?_
        refine S.sil 4 rfl rfl (fun _ hF => .assign (lk 0 rfl rfl)) ?_
        refine S.nilD (by kernel_rfl) ?_
        refine thenQ_n ?_
        refine AWp.prune (.eq (lk 0 rfl rfl) rfl .nil) ?_
        refine AWp.ret ?_
        obtain rfl := h.ret
        exact endF1 rfl (Wk.selS [] .nil rfl (SelE.leaf (lk 0 rfl rfl) rfl (.refl _) (fun m => (TyOk.bool.lt _ _)) .nil) .nil) (.tmp (lk 0 rfl rfl) rfl) rfl rfl
      · skip
        refine Ok.spl h (fun c4 h => ?_) (fun c4 h => ?_)
        · skip
          refine S.yqui 14 6 11 true rfl rfl rfl ((lk 2 rfl rfl).trans (congrArg V.bool c1)) (fun _ => .lookV (es := [(1, .fn 84 [] []), (2, .fn 85 [] []), (3, .fn 86 [] [])]) und81 und3 zv41 (lk 1 rfl rfl) (lk 0 rfl rfl) rfl (i64M_get m6) rfl (by decide) (of_decide_eq_true c4) (List.Mem.tail _ (List.Mem.tail _ (List.Mem.head _))) rfl) ?_
          refine S.ysil 15 6 11 true rfl rfl rfl ((lk 3 rfl rfl).trans (congrArg V.bool c1)) (fun _ hF => .loadC sz33 ag33 (lk 11 rfl rfl) (ty_TField.fl a2) rfl) ?_
          obtain ⟨r9, m9, h⟩ := h.bnd
          refine S.ysil 16 6 11 true rfl rfl rfl ((lk 4 rfl rfl).trans (congrArg V.bool c1)) (fun _ hF => .callQ ent86 (lk 1 rfl rfl) (.c (lk 0 rfl rfl) (V.sub.refl _) .nil) (C_wire_says_3 m9)) ?_
          refine S.sil 17 rfl rfl (fun _ hF => .pickT ((lk 5 rfl rfl).trans (congrArg V.bool c1)) (lk 0 rfl rfl)) ?_
          refine S.sil 4 rfl rfl (fun _ hF => .assign (lk 0 rfl rfl)) ?_
          refine S.nilD (by kernel_rfl) ?_
          refine thenQ_n ?_
          refine AWp.prune (.eq (lk 0 rfl rfl) rfl .nil) ?_
          refine AWp.ret ?_
          obtain rfl := h.ret
          exact endF1 rfl (Wk.selS [] .nil rfl (SelE.leaf (lk 0 rfl rfl) rfl (.refl _) (fun m => (TyOk.bool.lt _ _)) .nil) .nil) (.tmp (lk 0 rfl rfl) rfl) rfl rfl
        · skip
          exact h.no.elim
  · skip
    refine S.gno 12 6 11 true rfl rfl rfl ((lk 0 rfl rfl).trans (congrArg V.bool c1)) rfl ?_
    refine S.gno 13 6 11 true rfl rfl rfl ((lk 1 rfl rfl).trans (congrArg V.bool c1)) rfl ?_
    refine S.gno 14 6 11 true rfl rfl rfl ((lk 2 rfl rfl).trans (congrArg V.bool c1)) rfl ?_
    refine S.gno 15 6 11 true rfl rfl rfl ((lk 3 rfl rfl).trans (congrArg V.bool c1)) rfl ?_
    refine S.gno 16 6 11 true rfl rfl rfl ((lk 4 rfl rfl).trans (congrArg V.bool c1)) rfl ?_
    refine S.sil 17 rfl rfl (fun _ hF => .pickF ((lk 5 rfl rfl).trans (congrArg V.bool c1)) cB) ?_
    refine S.sil 4 rfl rfl (fun _ hF => .assign (lk 0 rfl rfl)) ?_
    refine S.nilD (by kernel_rfl) ?_
    refine thenQ_n ?_
    refine AWp.prune (.eq (lk 0 rfl rfl) rfl .nil) ?_
    refine AWp.ret ?_
    obtain rfl := h.ret
    exact endF1 rfl (Wk.selS [] .nil rfl (SelE.leaf (lk 0 rfl rfl) rfl (.refl _) (fun m => (TyOk.bool.lt _ _)) .nil) .nil) (.tmp (lk 0 rfl rfl) rfl) rfl rfl
theorem C_slices_Equal_Hold {a1 : List THold} {a2 : List THold} {r : Bool} (h : slices_Equal_Hold a1 a2 = some r) : PureC Pg 74 [.sl 5 .no (List.map E_THold a1), .sl 5 .no (List.map E_THold a2)] (V.bool r) := by
  refine PureC.ofF (CallSpec.of_bodyF 26 0 fn74 rfl rfl rfl (Nat.le_of_ble_eq_true rfl) ?_) (ltL_c (lt_sl rfl (ty_THold.ltm _ _)) (ltL_c (lt_sl rfl (ty_THold.ltm _ _)) ltL_nil)) (TyOk.bool.lt _ _)
  replace h := Ok.of h
  unfold slices_Equal_Hold at h
  refine AWp.seq ?_
  refine W.reg [0] rfl ?_
  refine S.sil 4 rfl rfl (fun _ hF => .assign cB) ?_
  refine S.nil ?_
  refine thenQ_n ?_
  refine AWp.seq ?_
  refine AWp.seq ?_
  refine W.reg [0, 1, 2, 3, 4] rfl ?_
  refine S.sil 6 rfl rfl (fun _ hF => .move (lk 1 rfl rfl)) ?_
  refine S.sil 7 rfl rfl (fun _ hF => .lenT sli31 (lk 0 rfl rfl) (vsub rfl (.refl _))) ?_
  refine S.sil 8 rfl rfl (fun _ hF => .move (lk 4 rfl rfl)) ?_
  refine S.sil 9 rfl rfl (fun _ hF => .lenT sli31 (lk 0 rfl rfl) (vsub rfl (.refl _))) ?_
  refine S.sil 10 rfl rfl (fun _ hF => .neq (lk 2 rfl rfl) (lk 0 rfl rfl)) ?_
  refine S.nil ?_
  refine thenQ_n ?_
  refine AWp.condM (lk 0 rfl rfl) h (fun c1 h => ?_) (fun c1 h => ?_)
  · skip
    refine AWp.seq ?_
    refine W.reg [0] rfl ?_
    refine S.sil 4 rfl rfl (fun _ hF => .assign cB) ?_
    refine S.nil ?_
    refine thenQ_n ?_
    refine AWp.ret ?_
    refine thenQ_r ?_
    obtain rfl := h.ret
    exact endF1 rfl (Wk.selS [] .nil rfl (SelE.leaf (lk 0 rfl rfl) rfl (.refl _) (fun m => (TyOk.bool.lt _ _)) .nil) .nil) (.tmp (lk 0 rfl rfl) rfl) rfl rfl
  · skip
    refine AWp.skip ?_
    refine thenQ_n ?_
    refine AWp.seq ?_
    refine AWp.seq ?_
    refine W.reg [0, 1, 2] rfl ?_
    refine S.sil 11 rfl rfl (fun _ hF => .move (lk 6 rfl rfl)) ?_
    refine S.sil 12 rfl rfl (fun _ hF => .lenT sli31 (lk 0 rfl rfl) (vsub rfl (.refl _))) ?_
    refine S.sil 13 rfl rfl (fun _ hF => .move cI) ?_
    refine S.nil ?_
    refine thenQ_n ?_
    refine AWp.cutL (fun x5 => ⟨[(4, V.bool false)], []⟩) nc_then h (fun q3 hq3 h => ?_) (fun x5 h => ?_)
    · refine AWp.block ?_
      refine AWp.loopT (fun s4 => ⟨[(13, (V.int .i64) s4), (12, (V.int .i64) (a1.length : Int)), (4, V.bool false), (0, .sl 5 .no (List.map E_THold a1)), (1, .sl 5 .no (List.map E_THold a2))], []⟩) hq3 (Wk.selS [] (by decide) rfl (SelE.leaf (lk 0 rfl rfl) rfl (.refl _) (fun m => ((TyOk.int .i64).lt _ _)) (SelE.leaf (lk 1 rfl rfl) rfl (.refl _) (fun m => ((TyOk.int .i64).lt _ _)) (SelE.leaf (lk 8 rfl rfl) rfl (.refl _) (fun m => (TyOk.bool.lt _ _)) (SelE.leaf (lk 9 rfl rfl) rfl (.refl _) (fun m => (lt_sl rfl (ty_THold.ltm _ _))) (SelE.leaf (lk 10 rfl rfl) rfl (.refl _) (fun m => (lt_sl rfl (ty_THold.ltm _ _))) .nil))))) .nil) (fun _ s4 h3 => ?_)
      rw [slices_Equal_Hold_L1] at h3
      refine AWp.seq ?_
      refine W.reg [0] rfl ?_
      refine S.sil 14 rfl rfl (fun _ hF => .lss (lk 0 rfl rfl) (lk 1 rfl rfl)) ?_
      refine S.nil ?_
      refine thenQ_n ?_
      refine AWp.seq ?_
      refine AWp.condM (lk 0 rfl rfl) h3 (fun c2 h3 => ?_) (fun c2 h3 => ?_)
      · skip
        refine AWp.skip ?_
        refine thenQ_n ?_
        refine AWp.seq ?_
        refine AWp.block ?_
        refine AWp.seq ?_
        refine W.reg [0, 1] rfl ?_
        refine S.sil 15 rfl rfl (fun _ hF => .move (lk 1 rfl rfl)) ?_
        refine S.sil 5 rfl rfl (fun _ hF => .assign (lk 0 rfl rfl)) ?_
        refine S.nil ?_
        refine thenQ_n ?_
        refine AWp.seq ?_
        refine W.regD [0, 1, 2, 3, 4, 5, 6, 7, 8] mixed ?_
        refine S.sil 16 rfl rfl (fun _ hF => .move (lk 6 rfl rfl)) ?_
        refine S.sil 17 rfl rfl (fun _ hF => .move (lk 1 rfl rfl)) ?_
        obtain ⟨j6, m6, h3⟩ := h3.bnd
        refine S.sil 18 rfl rfl (fun _ hF => .ixS sli31 (lk 1 rfl rfl) (lk 0 rfl rfl) m6) ?_
        obtain ⟨v7, ev7, h3⟩ := h3.nam
        refine S.sil 19 rfl rfl (fun _ hF => .nv (.loadC sz66 ag66 (lk 0 rfl rfl) (ty_THold.fl (a1.getD j6 default)) rfl) (congrArg E_THold ev7.symm)) ?_
        refine S.sil 20 rfl rfl (fun _ hF => .move (lk 11 rfl rfl)) ?_
        refine S.sil 21 rfl rfl (fun _ hF => .move (lk 5 rfl rfl)) ?_
        obtain ⟨j8, m8, h3⟩ := h3.bnd
        refine S.sil 22 rfl rfl (fun _ hF => .ixS sli31 (lk 1 rfl rfl) (lk 0 rfl rfl) m8) ?_
        obtain ⟨v9, ev9, h3⟩ := h3.nam
        refine S.sil 23 rfl rfl (fun _ hF => .nv (.loadC sz66 ag66 (lk 0 rfl rfl) (ty_THold.fl (a2.getD j8 default)) rfl) (congrArg E_THold ev9.symm)) ?_
        refine S.sil 24 rfl rfl (fun _ hF => .neqT eqt66 eqk_THold shk_THold (lk 4 rfl rfl) (lk 0 rfl rfl) rfl rfl) ?_
        refine S.nilD (by kernel_rfl) ?_
        refine thenQ_n ?_
        refine AWp.condM (lk 0 rfl rfl) h3 (fun c3 h3 => ?_) (fun c3 h3 => ?_)
        · skip
          refine AWp.seq ?_
          refine W.reg [0] rfl ?_
          refine S.sil 4 rfl rfl (fun _ hF => .assign cB) ?_
          refine S.nil ?_
          refine thenQ_n ?_
          refine AWp.ret ?_
          refine blockQ_r ?_
          refine thenQ_r ?_
          refine thenQ_r ?_
          refine blockQ_r ?_
          refine thenQ_r ?_
          refine thenQ_r ?_
          have h := Ok.inrq h h3.ret
          obtain rfl := h.ret
          exact endF1 rfl (Wk.selS [] .nil rfl (SelE.leaf (lk 0 rfl rfl) rfl (.refl _) (fun m => (TyOk.bool.lt _ _)) .nil) .nil) (.tmp (lk 0 rfl rfl) rfl) rfl rfl
        · skip
          refine AWp.skip ?_
          refine blockQ_n ?_
          refine thenQ_n ?_
          refine W.reg [0, 1] rfl ?_
          refine S.sil 25 rfl rfl (fun _ hF => .add (lk 12 rfl rfl) cI) ?_
          refine S.sil 13 rfl rfl (fun _ hF => .move (lk 0 rfl rfl)) ?_
          refine S.nil ?_
          refine thenQ_n ?_
          exact ⟨_, h3.ret, (Wk.selS [] (by decide) rfl (SelE.leaf (lk 0 rfl rfl) rfl (.refl _) (fun m => ((TyOk.int .i64).lt _ _)) (SelE.leaf (lk 15 rfl rfl) rfl (.refl _) (fun m => ((TyOk.int .i64).lt _ _)) (SelE.leaf (lk 16 rfl rfl) rfl (.refl _) (fun m => (TyOk.bool.lt _ _)) (SelE.leaf (lk 17 rfl rfl) rfl (.refl _) (fun m => (lt_sl rfl (ty_THold.ltm _ _))) (SelE.leaf (lk 18 rfl rfl) rfl (.refl _) (fun m => (lt_sl rfl (ty_THold.ltm _ _))) .nil))))) .nil)⟩
      · skip
        refine AWp.exit ?_
        refine thenQ_x ?_
        refine thenQ_x ?_
        refine blockQ_x ?_
        refine thenQ_n ?_
        exact ⟨_, h3.ret, (Wk.selS [] (by decide) rfl (SelE.leaf (lk 3 rfl rfl) rfl (.refl _) (fun m => (TyOk.bool.lt _ _)) .nil) .nil)⟩
    · skip
      refine thenQ_n ?_
      refine AWp.seq ?_
      refine W.reg [0] rfl ?_
      refine S.sil 4 rfl rfl (fun _ hF => .assign cB) ?_
      refine S.nil ?_
      refine thenQ_n ?_
      refine AWp.ret ?_
      obtain rfl := h.ret
      exact endF1 rfl (Wk.selS [] .nil rfl (SelE.leaf (lk 0 rfl rfl) rfl (.refl _) (fun m => (TyOk.bool.lt _ _)) .nil) .nil) (.tmp (lk 0 rfl rfl) rfl) rfl rfl
theorem C_field_Same {a1 : TField} {a2 : TField} {r : Bool} (h : field_Same a1 a2 = some r) : PureC Pg 35 [E_TField a1, E_TField a2] (V.bool r) := by
  refine PureC.ofF (CallSpec.of_bodyF 45 0 fn35 rfl rfl rfl (Nat.le_of_ble_eq_true rfl) ?_) (ltL_c (ty_TField.lt _ _) (ltL_c (ty_TField.lt _ _) ltL_nil)) (TyOk.bool.lt _ _)
  replace h := Ok.of h
  unfold field_Same at h
  refine AWp.seq ?_
  refine W.reg [0, 1, 2] rfl ?_
  refine S.eff 2 rfl rfl (.nf (v2 := .ptr 0 [] 0) (H2 := [.cells (E_TField a1)]) (.box (lk 0 rfl rfl) rfl) rfl rfl) trivial ?_
  refine S.eff 3 rfl rfl (.nf (v2 := .ptr 1 [] 0) (H2 := [.cells (E_TField a1), .cells (E_TField a2)]) (.box (lk 2 rfl rfl) rfl) rfl rfl) trivial ?_
  refine S.sil 4 rfl rfl (fun _ hF => .assign cB) ?_
  refine S.nil ?_
  refine thenQ_n ?_
  refine AWp.wk (Wk.freeze 0 rfl rfl (.same (lk 0 rfl rfl) (.same (lk 1 rfl rfl) (.cons (lk 2 rfl rfl) rfl (.ptr .nil (by first | rfl | omega)) .nil))) (.refl _)) ?_
  refine AWp.wk (Wk.freeze 1 rfl rfl (.same (lk 0 rfl rfl) (.cons (lk 1 rfl rfl) rfl (.ptr .nil (by first | rfl | omega)) (.same (lk 2 rfl rfl) .nil))) (.refl _)) ?_
  refine AWp.seq ?_
  refine W.reg [0, 1, 2, 3, 4, 5, 6, 7, 8, 9, 10, 11, 12, 13, 14, 15, 16, 17, 18, 19, 20, 21, 22, 23, 24, 25, 26, 27, 28, 29, 30, 31, 32, 33, 34, 35, 36, 37, 38, 39, 40] rfl ?_
  refine S.sil 5 rfl rfl (fun _ hF => .fieldAddrC lay33 rfl rfl (lk 2 rfl rfl) rfl flL_nil) ?_
  refine S.sil 6 rfl rfl (fun _ hF => .loadC sz9 ag9 (lk 0 rfl rfl) rfl rfl) ?_
  refine S.sil 7 rfl rfl (fun _ hF => .fieldAddrC lay33 rfl rfl (lk 3 rfl rfl) rfl flL_nil) ?_
  refine S.sil 8 rfl rfl (fun _ hF => .loadC sz9 ag9 (lk 0 rfl rfl) rfl rfl) ?_
  refine S.sil 9 rfl rfl (fun _ hF => .eqlS (lk 2 rfl rfl) (lk 0 rfl rfl)) ?_
  refine S.sil 10 rfl rfl (fun _ hF => .move (lk 0 rfl rfl)) ?_
  refine S.gsil 11 5 10 true rfl rfl rfl (lk 0 rfl rfl) (fun hB _ hF => .fieldAddrC lay33 rfl rfl (lk 8 rfl rfl) rfl (flL_c (show flen _ = 1 from rfl) flL_nil)) ?_
  refine S.gsil 12 5 10 true rfl rfl rfl (lk 1 rfl rfl) (fun hB _ hF => .loadC sz3 ag3 (ifT hB (lk 0 rfl rfl)) rfl rfl) ?_
  refine S.gsil 13 5 10 true rfl rfl rfl (lk 2 rfl rfl) (fun hB _ hF => .fieldAddrC lay33 rfl rfl (lk 9 rfl rfl) rfl (flL_c (show flen _ = 1 from rfl) flL_nil)) ?_
  refine S.gsil 14 5 10 true rfl rfl rfl (lk 3 rfl rfl) (fun hB _ hF => .loadC sz3 ag3 (ifT hB (lk 0 rfl rfl)) rfl rfl) ?_
  refine S.gsil 15 5 10 true rfl rfl rfl (lk 4 rfl rfl) (fun hB _ hF => .eql (ifT hB (lk 2 rfl rfl)) (ifT hB (lk 0 rfl rfl))) ?_
  refine S.sil 16 rfl rfl (fun _ hF => .pickAnd (lk 5 rfl rfl) (fun h => ifT h (lk 0 rfl rfl)) cB) ?_
  refine S.sil 17 rfl rfl (fun _ hF => .move (lk 0 rfl rfl)) ?_
  refine S.gsil 18 12 17 true rfl rfl rfl (lk 0 rfl rfl) (fun hB _ hF => .fieldAddrC lay33 rfl rfl (lk 15 rfl rfl) rfl (flL_c (show flen _ = 1 from rfl) (flL_c (show flen _ = 1 from rfl) flL_nil))) ?_
  refine S.gsil 19 12 17 true rfl rfl rfl (lk 1 rfl rfl) (fun hB _ hF => .loadC sz3 ag3 (ifT hB (lk 0 rfl rfl)) rfl rfl) ?_
  refine S.gsil 20 12 17 true rfl rfl rfl (lk 2 rfl rfl) (fun hB _ hF => .fieldAddrC lay33 rfl rfl (lk 16 rfl rfl) rfl (flL_c (show flen _ = 1 from rfl) (flL_c (show flen _ = 1 from rfl) flL_nil))) ?_
  refine S.gsil 21 12 17 true rfl rfl rfl (lk 3 rfl rfl) (fun hB _ hF => .loadC sz3 ag3 (ifT hB (lk 0 rfl rfl)) rfl rfl) ?_
  refine S.gsil 22 12 17 true rfl rfl rfl (lk 4 rfl rfl) (fun hB _ hF => .eql (ifT hB (lk 2 rfl rfl)) (ifT hB (lk 0 rfl rfl))) ?_
  obtain ⟨v3, ev3, h⟩ := h.nam
  refine S.sil 23 rfl rfl (fun _ hF => .nv (.pickAnd (lk 5 rfl rfl) (fun h => ifT h (lk 0 rfl rfl)) cB) (congrArg V.bool ev3.symm)) ?_
  refine S.sil 24 rfl rfl (fun _ hF => .move (lk 0 rfl rfl)) ?_
  refine S.gsil 25 19 24 true rfl rfl rfl (lk 0 rfl rfl) (fun hB _ hF => .fieldAddrC lay33 rfl rfl (lk 22 rfl rfl) rfl (flL_c (show flen _ = 1 from rfl) (flL_c (show flen _ = 1 from rfl) (flL_c (show flen _ = 1 from rfl) flL_nil)))) ?_
  refine S.gsil 26 19 24 true rfl rfl rfl (lk 1 rfl rfl) (fun hB _ hF => .loadC sz28 ag28 (ifT hB (lk 0 rfl rfl)) (ty_TCounter.fl a1.Counter) rfl) ?_
  refine S.gsil 27 19 24 true rfl rfl rfl (lk 2 rfl rfl) (fun hB _ hF => .fieldAddrC lay33 rfl rfl (lk 23 rfl rfl) rfl (flL_c (show flen _ = 1 from rfl) (flL_c (show flen _ = 1 from rfl) (flL_c (show flen _ = 1 from rfl) flL_nil)))) ?_
  refine S.gsil 28 19 24 true rfl rfl rfl (lk 3 rfl rfl) (fun hB _ hF => .loadC sz28 ag28 (ifT hB (lk 0 rfl rfl)) (ty_TCounter.fl a2.Counter) rfl) ?_
  refine S.gsil 29 19 24 true rfl rfl rfl (lk 4 rfl rfl) (fun hB _ hF => .eqlT eqt28 eqk_TCounter shk_TCounter (ifT hB (lk 2 rfl rfl)) (ifT hB (lk 0 rfl rfl)) rfl rfl) ?_
  refine S.sil 30 rfl rfl (fun _ hF => .pickAnd (lk 5 rfl rfl) (fun h => ifT h (lk 0 rfl rfl)) cB) ?_
  refine S.sil 31 rfl rfl (fun _ hF => .move (lk 0 rfl rfl)) ?_
  refine S.gsil 32 26 31 true rfl rfl rfl (lk 0 rfl rfl) (fun hB _ hF => .fieldAddrC lay33 rfl rfl (lk 29 rfl rfl) rfl (flL_c (show flen _ = 1 from rfl) (flL_c (show flen _ = 1 from rfl) (flL_c (show flen _ = 1 from rfl) (flL_c (ty_TCounter.fl a1.Counter) flL_nil))))) ?_
  refine S.gsil 33 26 31 true rfl rfl rfl (lk 1 rfl rfl) (fun hB _ hF => .loadC sz30 ag30 (ifT hB (lk 0 rfl rfl)) (ty_TLock.fl a1.Lock) rfl) ?_
  refine S.gsil 34 26 31 true rfl rfl rfl (lk 2 rfl rfl) (fun hB _ hF => .fieldAddrC lay33 rfl rfl (lk 30 rfl rfl) rfl (flL_c (show flen _ = 1 from rfl) (flL_c (show flen _ = 1 from rfl) (flL_c (show flen _ = 1 from rfl) (flL_c (ty_TCounter.fl a2.Counter) flL_nil))))) ?_
  refine S.gsil 35 26 31 true rfl rfl rfl (lk 3 rfl rfl) (fun hB _ hF => .loadC sz30 ag30 (ifT hB (lk 0 rfl rfl)) (ty_TLock.fl a2.Lock) rfl) ?_
  refine S.gsil 36 26 31 true rfl rfl rfl (lk 4 rfl rfl) (fun hB _ hF => .eqlT eqt30 eqk_TLock shk_TLock (ifT hB (lk 2 rfl rfl)) (ifT hB (lk 0 rfl rfl)) rfl rfl) ?_
  obtain ⟨v4, ev4, h⟩ := h.nam
  refine S.sil 37 rfl rfl (fun _ hF => .nv (.pickAnd (lk 5 rfl rfl) (fun h => ifT h (lk 0 rfl rfl)) cB) (congrArg V.bool ev4.symm)) ?_
  refine S.sil 38 rfl rfl (fun _ hF => .move (lk 0 rfl rfl)) ?_
  refine S.gsil 39 33 38 true rfl rfl rfl (lk 0 rfl rfl) (fun hB _ hF => .fieldAddrC lay33 rfl rfl (lk 36 rfl rfl) rfl (flL_c (show flen _ = 1 from rfl) (flL_c (show flen _ = 1 from rfl) (flL_c (show flen _ = 1 from rfl) (flL_c (ty_TCounter.fl a1.Counter) (flL_c (ty_TLock.fl a1.Lock) flL_nil)))))) ?_
  refine S.gsil 40 33 38 true rfl rfl rfl (lk 1 rfl rfl) (fun hB _ hF => .loadC sz31 ag31 (ifT hB (lk 0 rfl rfl)) rfl rfl) ?_
  refine S.gsil 41 33 38 true rfl rfl rfl (lk 2 rfl rfl) (fun hB _ hF => .fieldAddrC lay33 rfl rfl (lk 37 rfl rfl) rfl (flL_c (show flen _ = 1 from rfl) (flL_c (show flen _ = 1 from rfl) (flL_c (show flen _ = 1 from rfl) (flL_c (ty_TCounter.fl a2.Counter) (flL_c (ty_TLock.fl a2.Lock) flL_nil)))))) ?_
  refine S.gsil 42 33 38 true rfl rfl rfl (lk 3 rfl rfl) (fun hB _ hF => .loadC sz31 ag31 (ifT hB (lk 0 rfl rfl)) rfl rfl) ?_
  obtain ⟨r5, m5, h⟩ := h.bnd
  refine S.gsil 43 33 38 true rfl rfl rfl (lk 4 rfl rfl) (fun hB _ hF => .callQ ent74 cF (.c (ifT hB (lk 2 rfl rfl)) (V.sub.refl _) (.c (ifT hB (lk 0 rfl rfl)) (V.sub.refl _) .nil)) (C_slices_Equal_Hold (gd_get m5 hB))) ?_
  refine S.sil 44 rfl rfl (fun _ hF => .pickAnd (lk 5 rfl rfl) (fun h => ifT h (lk 0 rfl rfl)) cB) ?_
  refine S.sil 4 rfl rfl (fun _ hF => .assign (lk 0 rfl rfl)) ?_
  refine S.nil ?_
  refine thenQ_n ?_
  refine AWp.prune (.eq (lk 0 rfl rfl) rfl .nil) ?_
  refine AWp.ret ?_
  obtain rfl := h.ret
  exact endF1 rfl (Wk.selS [] .nil rfl (SelE.leaf (lk 0 rfl rfl) rfl (.refl _) (fun m => (TyOk.bool.lt _ _)) .nil) .nil) (.tmp (lk 0 rfl rfl) rfl) rfl rfl
end Go.Av
