/- Each function tells what its mirror tells. -/
import Derived.Test.YtakadpmjdhcckaaGreatAvPlanKeepsG1
import Derived.Test.YtakadpmjdhcckaaGreatProg
import Derived.KernelRfl
namespace Go.Av
set_option linter.unusedSectionVars false
open Go.Proofs
set_option linter.unusedVariables false
set_option linter.unusedSimpArgs false
set_option maxHeartbeats 4000000
set_option maxRecDepth 10000
theorem C_plan_names {a1 : TPlan} {r : (List ByteArray)} (h : plan_names a1 = some r) : PureC Pg 48 [E_TPlan a1] (E_S_s r) := by
  refine PureC.ofF (CallSpec.of_bodyF 14 0 fn48 rfl rfl rfl (Nat.le_of_ble_eq_true rfl) ?_) (ltL_c (ty_TPlan.lt _ _) ltL_nil) (ty_S_s.lt _ _)
  replace h := Ok.of h
  unfold plan_names at h
  refine AWp.seq ?_
  refine W.reg [0, 1] rfl ?_
  refine S.eff 1 rfl rfl (.nf (v2 := .ptr 0 [] 0) (H2 := [.cells (E_TPlan a1)]) (.box (lk 0 rfl rfl) rfl) rfl rfl) trivial ?_
  refine S.sil 2 rfl rfl (fun _ hF => .assign cNs) ?_
  refine S.nil ?_
  refine thenQ_n ?_
  refine AWp.wk (Wk.freeze 0 rfl rfl (.same (lk 0 rfl rfl) (.cons (lk 1 rfl rfl) rfl (.ptr .nil (by first | rfl | omega)) .nil)) (.refl _)) ?_
  refine AWp.seq ?_
  refine AWp.seq ?_
  refine W.reg [0, 1, 2] rfl ?_
  refine S.sil 3 rfl rfl (fun _ hF => .fieldAddrC lay24 rfl rfl (lk 1 rfl rfl) rfl flL_nil) ?_
  refine S.sil 4 rfl rfl (fun _ hF => .loadC sz3 ag3 (lk 0 rfl rfl) rfl rfl) ?_
  refine S.sil 5 rfl rfl (fun _ hF => .eql (lk 0 rfl rfl) cI) ?_
  refine S.nil ?_
  refine thenQ_n ?_
  refine AWp.condM (lk 0 rfl rfl) h (fun c1 h => ?_) (fun c1 h => ?_)
  · skip
    refine AWp.seq ?_
    refine W.reg [0, 1, 2, 3, 4, 5] rfl ?_
    refine S.sil 6 rfl rfl (fun _ hF => .fieldAddrC lay24 rfl rfl (lk 4 rfl rfl) rfl (flL_c (show flen _ = 1 from rfl) flL_nil)) ?_
    refine S.sil 7 rfl rfl (fun _ hF => .loadC sz9 ag9 (lk 0 rfl rfl) rfl rfl) ?_
    refine S.sil 8 rfl rfl (fun _ hF => .fieldAddrC lay24 rfl rfl (lk 6 rfl rfl) rfl (flL_c (show flen _ = 1 from rfl) (flL_c (show flen _ = 1 from rfl) flL_nil))) ?_
    refine S.sil 9 rfl rfl (fun _ hF => .loadC sz9 ag9 (lk 0 rfl rfl) rfl rfl) ?_
    refine S.sil 10 rfl rfl (fun _ hF => .buildSliceW sli77 zv9 rfl rfl (by decide) (.cons (lk 2 rfl rfl) rfl (.refl _) rfl (.cons (lk 0 rfl rfl) rfl (.refl _) rfl .nil))) ?_
    refine S.sil 2 rfl rfl (fun _ hF => .assign (lk 0 rfl rfl)) ?_
    refine S.nil ?_
    refine thenQ_n ?_
    refine AWp.ret ?_
    refine thenQ_r ?_
    obtain rfl := h.ret
    exact endF1 rfl (Wk.selS [] .nil rfl (SelE.leaf (lk 0 rfl rfl) rfl (.forget _ _ _) (fun m => (ty_S_s.lt [a1.Name, a1.Other] _)) .nil) .nil) (.tmp (lk 0 rfl rfl) rfl) rfl rfl
  · skip
    refine AWp.skip ?_
    refine thenQ_n ?_
    refine AWp.seq ?_
    refine W.reg [0, 1, 2, 3] rfl ?_
    refine S.sil 11 rfl rfl (fun _ hF => .fieldAddrC lay24 rfl rfl (lk 4 rfl rfl) rfl (flL_c (show flen _ = 1 from rfl) flL_nil)) ?_
    refine S.sil 12 rfl rfl (fun _ hF => .loadC sz9 ag9 (lk 0 rfl rfl) rfl rfl) ?_
    refine S.sil 13 rfl rfl (fun _ hF => .buildSliceW sli77 zv9 rfl rfl (by decide) (.cons (lk 0 rfl rfl) rfl (.refl _) rfl .nil)) ?_
    refine S.sil 2 rfl rfl (fun _ hF => .assign (lk 0 rfl rfl)) ?_
    refine S.nil ?_
    refine thenQ_n ?_
    refine AWp.ret ?_
    obtain rfl := h.ret
    exact endF1 rfl (Wk.selS [] .nil rfl (SelE.leaf (lk 0 rfl rfl) rfl (.forget _ _ _) (fun m => (ty_S_s.lt [a1.Name] _)) .nil) .nil) (.tmp (lk 0 rfl rfl) rfl) rfl rfl
theorem C_plan_Find_1 {a1 : TField} {a2 : ByteArray} {r : Bool} (h : plan_Find_1 a1 a2 = some r) : PureC Pg 43 [E_TField a1, .cptr (V.str a2)] (V.bool r) := by
  refine PureC.ofF (CallSpec.of_bodyF 8 0 fn43 rfl rfl rfl (Nat.le_of_ble_eq_true rfl) ?_) (ltL_c (ty_TField.lt _ _) (ltL_c (lt_cptr (TyOk.str.lt _ _)) ltL_nil)) (TyOk.bool.lt _ _)
  replace h := Ok.of h
  unfold plan_Find_1 at h
  refine AWp.seq ?_
  refine W.reg [0, 1] rfl ?_
  refine S.eff 2 rfl rfl (.nf (v2 := .ptr 0 [] 0) (H2 := [.cells (E_TField a1)]) (.box (lk 0 rfl rfl) rfl) rfl rfl) trivial ?_
  refine S.sil 3 rfl rfl (fun _ hF => .assign cB) ?_
  refine S.nil ?_
  refine thenQ_n ?_
  refine AWp.wk (Wk.freeze 0 rfl rfl (.same (lk 0 rfl rfl) (.cons (lk 1 rfl rfl) rfl (.ptr .nil (by first | rfl | omega)) (.same (lk 3 rfl rfl) .nil))) (.refl _)) ?_
  refine AWp.seq ?_
  refine W.reg [0, 1, 2, 3, 4] rfl ?_
  refine S.sil 4 rfl rfl (fun _ hF => .fieldAddrC lay43 rfl rfl (lk 1 rfl rfl) rfl flL_nil) ?_
  refine S.sil 5 rfl rfl (fun _ hF => .loadC sz9 ag9 (lk 0 rfl rfl) rfl rfl) ?_
  refine S.sil 6 rfl rfl (fun _ hF => .loadC sz9 ag9 (lk 4 rfl rfl) rfl rfl) ?_
  refine S.sil 7 rfl rfl (fun _ hF => .eqlS (lk 1 rfl rfl) (lk 0 rfl rfl)) ?_
  refine S.sil 3 rfl rfl (fun _ hF => .assign (lk 0 rfl rfl)) ?_
  refine S.nil ?_
  refine thenQ_n ?_
  refine AWp.ret ?_
  obtain rfl := h.ret
  exact endF1 rfl (Wk.selS [] .nil rfl (SelE.leaf (lk 0 rfl rfl) rfl (.refl _) (fun m => (TyOk.bool.lt _ _)) .nil) .nil) (.tmp (lk 0 rfl rfl) rfl) rfl rfl
theorem C_slices_IndexFunc_Field_Find_1 {a1 : List TField} {a2 : ByteArray} {r : Int} (h : slices_IndexFunc_Field_Find_1 a1 a2 = some r) : PureC Pg 42 [.sl 587 .no (List.map E_TField a1), .fn 43 [] [.cptr (V.str a2)]] ((V.int .i64) r) := by
  refine PureC.ofF (CallSpec.of_bodyF 19 0 fn42 rfl rfl rfl (Nat.le_of_ble_eq_true rfl) ?_) (ltL_c (lt_sl rfl (ty_TField.ltm _ _)) (ltL_c (lt_fn ltL_nil (ltL_c (lt_cptr (TyOk.str.lt _ _)) ltL_nil)) ltL_nil)) ((TyOk.int .i64).lt _ _)
  replace h := Ok.of h
  unfold slices_IndexFunc_Field_Find_1 at h
  refine AWp.seq ?_
  refine W.reg [0] rfl ?_
  refine S.sil 4 rfl rfl (fun _ hF => .assign cI) ?_
  refine S.nil ?_
  refine thenQ_n ?_
  refine AWp.seq ?_
  refine AWp.seq ?_
  refine W.reg [0, 1, 2] rfl ?_
  refine S.sil 6 rfl rfl (fun _ hF => .move (lk 1 rfl rfl)) ?_
  refine S.sil 7 rfl rfl (fun _ hF => .lenT sli22 (lk 0 rfl rfl) (vsub rfl (.refl _))) ?_
  refine S.sil 8 rfl rfl (fun _ hF => .move cI) ?_
  refine S.nil ?_
  refine thenQ_n ?_
  refine AWp.cutL (fun x5 => ⟨[(4, (V.int .i64) 0)], []⟩) nc_then h (fun q3 hq3 h => ?_) (fun x5 h => ?_)
  · refine AWp.block ?_
    refine AWp.loopT (fun s4 => ⟨[(8, (V.int .i64) s4), (7, (V.int .i64) (a1.length : Int)), (4, (V.int .i64) 0), (0, .sl 587 .no (List.map E_TField a1)), (1, .fn 43 [] [.cptr (V.str a2)])], []⟩) hq3 (Wk.selS [] (by decide) rfl (SelE.leaf (lk 0 rfl rfl) rfl (.refl _) (fun m => ((TyOk.int .i64).lt _ _)) (SelE.leaf (lk 1 rfl rfl) rfl (.refl _) (fun m => ((TyOk.int .i64).lt _ _)) (SelE.leaf (lk 3 rfl rfl) rfl (.refl _) (fun m => ((TyOk.int .i64).lt _ _)) (SelE.leaf (lk 4 rfl rfl) rfl (.refl _) (fun m => (lt_sl rfl (ty_TField.ltm _ _))) (SelE.leaf (lk 5 rfl rfl) rfl (.refl _) (fun m => (lt_fn ltL_nil (ltL_c (lt_cptr (TyOk.str.lt _ _)) ltL_nil))) .nil))))) .nil) (fun _ s4 h3 => ?_)
    rw [slices_IndexFunc_Field_Find_1_L1] at h3
    refine AWp.seq ?_
    refine W.reg [0] rfl ?_
    refine S.sil 9 rfl rfl (fun _ hF => .lss (lk 0 rfl rfl) (lk 1 rfl rfl)) ?_
    refine S.nil ?_
    refine thenQ_n ?_
    refine AWp.seq ?_
    refine AWp.condM (lk 0 rfl rfl) h3 (fun c1 h3 => ?_) (fun c1 h3 => ?_)
    · skip
      refine AWp.skip ?_
      refine thenQ_n ?_
      refine AWp.seq ?_
      refine AWp.block ?_
      refine AWp.seq ?_
      refine W.reg [0, 1] rfl ?_
      refine S.sil 10 rfl rfl (fun _ hF => .move (lk 1 rfl rfl)) ?_
      refine S.sil 5 rfl rfl (fun _ hF => .assign (lk 0 rfl rfl)) ?_
      refine S.nil ?_
      refine thenQ_n ?_
      refine AWp.seq ?_
      refine W.reg [0, 1, 2, 3, 4, 5] rfl ?_
      refine S.sil 11 rfl rfl (fun _ hF => .move (lk 7 rfl rfl)) ?_
      refine S.sil 12 rfl rfl (fun _ hF => .move (lk 7 rfl rfl)) ?_
      refine S.sil 13 rfl rfl (fun _ hF => .move (lk 2 rfl rfl)) ?_
      obtain ⟨j6, m6, h3⟩ := h3.bnd
      refine S.sil 14 rfl rfl (fun _ hF => .ixS sli22 (lk 1 rfl rfl) (lk 0 rfl rfl) m6) ?_
      obtain ⟨v7, ev7, h3⟩ := h3.nam
      refine S.sil 15 rfl rfl (fun _ hF => .nv (.loadC sz43 ag43 (lk 0 rfl rfl) (ty_TField.fl (a1.getD j6 default)) rfl) (congrArg E_TField ev7.symm)) ?_
      obtain ⟨r8, m8, h3⟩ := h3.bnd
      refine S.sil 16 rfl rfl (fun _ hF => .callQ ent43 (lk 4 rfl rfl) (.c (lk 0 rfl rfl) (V.sub.refl _) (.cons (.refl _) .nil)) (C_plan_Find_1 m8)) ?_
      refine S.nil ?_
      refine thenQ_n ?_
      refine AWp.condM (lk 0 rfl rfl) h3 (fun c2 h3 => ?_) (fun c2 h3 => ?_)
      · skip
        refine AWp.seq ?_
        refine W.reg [0, 1] rfl ?_
        refine S.sil 17 rfl rfl (fun _ hF => .move (lk 6 rfl rfl)) ?_
        refine S.sil 4 rfl rfl (fun _ hF => .assign (lk 0 rfl rfl)) ?_
        refine S.nil ?_
        refine thenQ_n ?_
        refine AWp.ret ?_
        refine blockQ_r ?_
        refine thenQ_r ?_
        refine thenQ_r ?_
        refine blockQ_r ?_
        refine thenQ_r ?_
        refine thenQ_r ?_
        have h := Ok.inrq h h3.ret
        obtain rfl := h.ret
        exact endF1 rfl (Wk.selS [] .nil rfl (SelE.leaf (lk 0 rfl rfl) rfl (.refl _) (fun m => ((TyOk.int .i64).lt _ _)) .nil) .nil) (.tmp (lk 0 rfl rfl) rfl) rfl rfl
      · skip
        refine AWp.skip ?_
        refine blockQ_n ?_
        refine thenQ_n ?_
        refine W.reg [0, 1] rfl ?_
        refine S.sil 18 rfl rfl (fun _ hF => .add (lk 9 rfl rfl) cI) ?_
        refine S.sil 8 rfl rfl (fun _ hF => .move (lk 0 rfl rfl)) ?_
        refine S.nil ?_
        refine thenQ_n ?_
        exact ⟨_, h3.ret, (Wk.selS [] (by decide) rfl (SelE.leaf (lk 0 rfl rfl) rfl (.refl _) (fun m => ((TyOk.int .i64).lt _ _)) (SelE.leaf (lk 12 rfl rfl) rfl (.refl _) (fun m => ((TyOk.int .i64).lt _ _)) (SelE.leaf (lk 13 rfl rfl) rfl (.refl _) (fun m => ((TyOk.int .i64).lt _ _)) (SelE.leaf (lk 14 rfl rfl) rfl (.refl _) (fun m => (lt_sl rfl (ty_TField.ltm _ _))) (SelE.leaf (lk 15 rfl rfl) rfl (.refl _) (fun m => (lt_fn ltL_nil (ltL_c (lt_cptr (TyOk.str.lt _ _)) ltL_nil))) .nil))))) .nil)⟩
    · skip
      refine AWp.exit ?_
      refine thenQ_x ?_
      refine thenQ_x ?_
      refine blockQ_x ?_
      refine thenQ_n ?_
      exact ⟨_, h3.ret, (Wk.selS [] (by decide) rfl (SelE.leaf (lk 3 rfl rfl) rfl (.refl _) (fun m => ((TyOk.int .i64).lt _ _)) .nil) .nil)⟩
  · skip
    refine thenQ_n ?_
    refine AWp.seq ?_
    refine W.reg [0] rfl ?_
    refine S.sil 4 rfl rfl (fun _ hF => .assign cI) ?_
    refine S.nil ?_
    refine thenQ_n ?_
    refine AWp.ret ?_
    obtain rfl := h.ret
    exact endF1 rfl (Wk.selS [] .nil rfl (SelE.leaf (lk 0 rfl rfl) rfl (.refl _) (fun m => ((TyOk.int .i64).lt _ _)) .nil) .nil) (.tmp (lk 0 rfl rfl) rfl) rfl rfl
theorem C_plan_Find {a1 : List TField} {a2 : ByteArray} {r : Int × Bool} (h : plan_Find a1 a2 = some r) : PureC Pg 11 [.sl 587 .no (List.map E_TField a1), V.str a2] (.tup [(V.int .i64) r.1, V.bool r.2]) := by
  refine PureC.ofF (CallSpec.of_bodyF 14 0 fn11 rfl rfl rfl (Nat.le_of_ble_eq_true rfl) ?_) (ltL_c (lt_sl rfl (ty_TField.ltm _ _)) (ltL_c (TyOk.str.lt _ _) ltL_nil)) (lt_tup (ltL_c ((TyOk.int .i64).lt _ _) (ltL_c (TyOk.bool.lt _ _) ltL_nil)))
  replace h := Ok.of h
  unfold plan_Find at h
  refine AWp.seq ?_
  refine W.reg [0, 1, 2] rfl ?_
  refine S.eff 3 rfl rfl (.nf (v2 := .ptr 0 [] 0) (H2 := [.cells (V.str a2)]) (.box (lk 1 rfl rfl) rfl) rfl rfl) trivial ?_
  refine S.sil 4 rfl rfl (fun _ hF => .assign cI) ?_
  refine S.sil 5 rfl rfl (fun _ hF => .assign cB) ?_
  refine S.nil ?_
  refine thenQ_n ?_
  refine AWp.wk (Wk.freeze 0 rfl rfl (.same (lk 0 rfl rfl) (.same (lk 1 rfl rfl) (.cons (lk 2 rfl rfl) rfl (.ptr .nil (by first | rfl | omega)) (.same (lk 3 rfl rfl) .nil)))) (.refl _)) ?_
  refine AWp.seq ?_
  refine W.reg [0, 1, 2, 3] rfl ?_
  refine S.sil 7 rfl rfl (fun _ hF => .move (lk 3 rfl rfl)) ?_
  refine S.sil 8 rfl rfl (fun _ hF => .makeFunc rfl (mapE1 (lk 3 rfl rfl)) rfl rfl) ?_
  obtain ⟨r3, m3, h⟩ := h.bnd
  refine S.sil 9 rfl rfl (fun _ hF => .callQ ent42 cF (.c (lk 1 rfl rfl) (V.sub.refl _) (.c (lk 0 rfl rfl) (V.sub.refl _) .nil)) (C_slices_IndexFunc_Field_Find_1 m3)) ?_
  refine S.sil 6 rfl rfl (fun _ hF => .assign (lk 0 rfl rfl)) ?_
  refine S.nil ?_
  refine thenQ_n ?_
  refine AWp.seq ?_
  refine W.reg [0, 1, 2, 3, 4, 5] rfl ?_
  refine S.sil 10 rfl rfl (fun _ hF => .move (lk 0 rfl rfl)) ?_
  refine S.sil 11 rfl rfl (fun _ hF => .bmax (lk 0 rfl rfl) cI) ?_
  refine S.sil 12 rfl rfl (fun _ hF => .move (lk 2 rfl rfl)) ?_
  refine S.sil 13 rfl rfl (fun _ hF => .geq (lk 0 rfl rfl) cI) ?_
  refine S.sil 4 rfl rfl (fun _ hF => .assign (lk 2 rfl rfl)) ?_
  refine S.sil 5 rfl rfl (fun _ hF => .assign (lk 1 rfl rfl)) ?_
  refine S.nil ?_
  refine thenQ_n ?_
  refine AWp.prune (.eq (lk 0 rfl rfl) rfl (.eq (lk 1 rfl rfl) rfl .nil)) ?_
  refine AWp.ret ?_
  obtain rfl := h.ret
  exact endFN rfl (Wk.selS [] .nil rfl (SelE.leaf (lk 1 rfl rfl) rfl (.refl _) (fun m => ((TyOk.int .i64).lt _ _)) (SelE.leaf (lk 0 rfl rfl) rfl (.refl _) (fun m => (TyOk.bool.lt _ _)) .nil)) .nil) (.cons (.tmp (lk 0 rfl rfl) rfl) (.cons (.tmp (lk 1 rfl rfl) rfl) .nil)) rfl rfl rfl
theorem C_plan_Fits_1 {a1 : TField} {b2 : Int} {r : Bool × Int} (h : plan_Fits_1 a1 b2 = some r) : CallSpec Pg 50 [E_TField a1, .ptr 0 [] 0] [.cells ((V.int .i64) b2)] fun o H' => o = .ret (V.bool r.1) ∧ H' = [.cells ((V.int .i64) r.2)] := by
  refine CallSpec.of_bodyF 8 1 fn50 rfl rfl rfl (Nat.le_of_ble_eq_true rfl) ?_
  replace h := Ok.of h
  unfold plan_Fits_1 at h
  refine AWp.seq ?_
  refine W.reg [0, 1] rfl ?_
  refine S.eff 2 rfl rfl (.nf (v2 := .ptr 1 [] 0) (H2 := [.cells ((V.int .i64) b2), .cells (E_TField a1)]) (.box (lk 0 rfl rfl) rfl) rfl rfl) trivial ?_
  refine S.sil 3 rfl rfl (fun _ hF => .assign cB) ?_
  refine S.nil ?_
  refine thenQ_n ?_
  refine AWp.wk (Wk.freeze 1 rfl rfl (.same (lk 0 rfl rfl) (.cons (lk 1 rfl rfl) rfl (.ptr .nil (by first | rfl | omega)) (.same (lk 3 rfl rfl) .nil))) (.refl _)) ?_
  refine AWp.seq ?_
  refine W.reg [0, 1, 2, 3, 4] rfl ?_
  refine S.sil 4 rfl rfl (fun _ hF => .fieldAddrC lay43 rfl rfl (lk 1 rfl rfl) rfl (flL_c (show flen _ = 1 from rfl) flL_nil)) ?_
  refine S.sil 5 rfl rfl (fun _ hF => .loadC sz3 ag3 (lk 0 rfl rfl) rfl rfl) ?_
  refine S.qui 6 rfl rfl (fun _ => .loadP sz3 ag3 (lk 4 rfl rfl) rfl .nil (by first | rfl | omega) rfl rfl) ?_
  refine S.sil 7 rfl rfl (fun _ hF => .neq (lk 1 rfl rfl) (lk 0 rfl rfl)) ?_
  refine S.sil 3 rfl rfl (fun _ hF => .assign (lk 0 rfl rfl)) ?_
  refine S.nil ?_
  refine thenQ_n ?_
  refine AWp.ret ?_
  obtain rfl := h.ret
  exact endF1 rfl (Wk.selS [0] (by decide) rfl (SelE.leaf (lk 0 rfl rfl) rfl (.refl _) (fun m => (TyOk.bool.lt _ _)) .nil) (.cons (lt_cells ((TyOk.int .i64).lt _ _)) rfl (RSub.trans (.refl _) (.eq ((TyOk.int .i64).cl _ _).symm)) .nil)) (.tmp (lk 0 rfl rfl) rfl) rfl rfl
theorem C_slices_IndexFunc_Field_Fits_1 {a1 : List TField} {b2 : Int} {r : Int × Int} (h : slices_IndexFunc_Field_Fits_1 a1 b2 = some r) : CallSpec Pg 42 [.sl 587 .no (List.map E_TField a1), .fn 50 [] [.ptr 0 [] 0]] [.cells ((V.int .i64) b2)] fun o H' => o = .ret ((V.int .i64) r.1) ∧ H' = [.cells ((V.int .i64) r.2)] := by
  refine CallSpec.of_bodyF 19 1 fn42 rfl rfl rfl (Nat.le_of_ble_eq_true rfl) ?_
  replace h := Ok.of h
  unfold slices_IndexFunc_Field_Fits_1 at h
  refine AWp.seq ?_
  refine W.reg [0] rfl ?_
  refine S.sil 4 rfl rfl (fun _ hF => .assign cI) ?_
  refine S.nil ?_
  refine thenQ_n ?_
  refine AWp.seq ?_
  refine AWp.seq ?_
  refine W.reg [0, 1, 2] rfl ?_
  refine S.sil 6 rfl rfl (fun _ hF => .move (lk 1 rfl rfl)) ?_
  refine S.sil 7 rfl rfl (fun _ hF => .lenT sli22 (lk 0 rfl rfl) (vsub rfl (.refl _))) ?_
  refine S.sil 8 rfl rfl (fun _ hF => .move cI) ?_
  refine S.nil ?_
  refine thenQ_n ?_
  refine AWp.cutL (fun x5 => ⟨[(4, (V.int .i64) 0)], [.cells ((V.int .i64) x5)]⟩) nc_then h (fun q3 hq3 h => ?_) (fun x5 h => ?_)
  · refine AWp.block ?_
    refine AWp.loopT (fun s4 => ⟨[(8, (V.int .i64) s4.2), (7, (V.int .i64) (a1.length : Int)), (4, (V.int .i64) 0), (0, .sl 587 .no (List.map E_TField a1)), (1, .fn 50 [] [.ptr 0 [] 0])], [.cells ((V.int .i64) s4.1)]⟩) hq3 (Wk.selS [0] (by decide) rfl (SelE.leaf (lk 0 rfl rfl) rfl (.refl _) (fun m => ((TyOk.int .i64).lt _ _)) (SelE.leaf (lk 1 rfl rfl) rfl (.refl _) (fun m => ((TyOk.int .i64).lt _ _)) (SelE.leaf (lk 3 rfl rfl) rfl (.refl _) (fun m => ((TyOk.int .i64).lt _ _)) (SelE.leaf (lk 4 rfl rfl) rfl (.refl _) (fun m => (lt_sl rfl (ty_TField.ltm _ _))) (SelE.spec (lk 5 rfl rfl) rfl (.refl _) (ren_fn rfl (renL_c rfl rfl)) (lt_fn ltL_nil (ltL_c rfl ltL_nil)) .nil))))) (.cons (lt_cells ((TyOk.int .i64).lt _ _)) rfl (RSub.trans (.refl _) (.eq ((TyOk.int .i64).cl _ _).symm)) .nil)) (fun _ s4 h3 => ?_)
    rw [slices_IndexFunc_Field_Fits_1_L1] at h3
    refine AWp.seq ?_
    refine W.reg [0] rfl ?_
    refine S.sil 9 rfl rfl (fun _ hF => .lss (lk 0 rfl rfl) (lk 1 rfl rfl)) ?_
    refine S.nil ?_
    refine thenQ_n ?_
    refine AWp.seq ?_
    refine AWp.condM (lk 0 rfl rfl) h3 (fun c1 h3 => ?_) (fun c1 h3 => ?_)
    · skip
      refine AWp.skip ?_
      refine thenQ_n ?_
      refine AWp.seq ?_
      refine AWp.block ?_
      refine AWp.seq ?_
      refine W.reg [0, 1] rfl ?_
      refine S.sil 10 rfl rfl (fun _ hF => .move (lk 1 rfl rfl)) ?_
      refine S.sil 5 rfl rfl (fun _ hF => .assign (lk 0 rfl rfl)) ?_
      refine S.nil ?_
      refine thenQ_n ?_
      refine AWp.seq ?_
      refine W.reg [0, 1, 2, 3, 4, 5] rfl ?_
      refine S.sil 11 rfl rfl (fun _ hF => .move (lk 7 rfl rfl)) ?_
      refine S.sil 12 rfl rfl (fun _ hF => .move (lk 7 rfl rfl)) ?_
      refine S.sil 13 rfl rfl (fun _ hF => .move (lk 2 rfl rfl)) ?_
      obtain ⟨j6, m6, h3⟩ := h3.bnd
      refine S.sil 14 rfl rfl (fun _ hF => .ixS sli22 (lk 1 rfl rfl) (lk 0 rfl rfl) m6) ?_
      obtain ⟨v7, ev7, h3⟩ := h3.nam
      refine S.sil 15 rfl rfl (fun _ hF => .nv (.loadC sz43 ag43 (lk 0 rfl rfl) (ty_TField.fl (a1.getD j6 default)) rfl) (congrArg E_TField ev7.symm)) ?_
      obtain ⟨r8, m8, h3⟩ := h3.bnd
      refine S.eff 16 rfl rfl (.nf (v2 := V.bool r8.1) (H2 := [.cells ((V.int .i64) r8.2)]) (.callH ent50 (lk 4 rfl rfl) [0] (C_plan_Fits_1 m8) (by decide) (.cons (lt_cells ((TyOk.int .i64).lt _ _)) rfl (RSub.trans (.refl _) (.eq ((TyOk.int .i64).cl _ _).symm)) .nil) (ltL_c (ty_TField.lt _ _) (ltL_c rfl ltL_nil)) (.c (lk 0 rfl rfl) (vsubr (V.sub.refl _) (ty_TField.lt _ _)) (.cons (subren rfl) .nil)) (TyOk.bool.cl _ _) (mapc (ren_cells ((TyOk.int .i64).cl _ _)) rfl) rfl) rfl rfl) trivial ?_
      refine S.nil ?_
      refine thenQ_n ?_
      refine AWp.condM (lk 0 rfl rfl) h3 (fun c2 h3 => ?_) (fun c2 h3 => ?_)
      · skip
        refine AWp.seq ?_
        refine W.reg [0, 1] rfl ?_
        refine S.sil 17 rfl rfl (fun _ hF => .move (lk 6 rfl rfl)) ?_
        refine S.sil 4 rfl rfl (fun _ hF => .assign (lk 0 rfl rfl)) ?_
        refine S.nil ?_
        refine thenQ_n ?_
        refine AWp.ret ?_
        refine blockQ_r ?_
        refine thenQ_r ?_
        refine thenQ_r ?_
        refine blockQ_r ?_
        refine thenQ_r ?_
        refine thenQ_r ?_
        have h := Ok.inrq h h3.ret
        obtain rfl := h.ret
        exact endF1 rfl (Wk.selS [0] (by decide) rfl (SelE.leaf (lk 0 rfl rfl) rfl (.refl _) (fun m => ((TyOk.int .i64).lt _ _)) .nil) (.cons (lt_cells ((TyOk.int .i64).lt _ _)) rfl (RSub.trans (.refl _) (.eq ((TyOk.int .i64).cl _ _).symm)) .nil)) (.tmp (lk 0 rfl rfl) rfl) rfl rfl
      · skip
        refine AWp.skip ?_
        refine blockQ_n ?_
        refine thenQ_n ?_
        refine W.reg [0, 1] rfl ?_
        refine S.sil 18 rfl rfl (fun _ hF => .add (lk 9 rfl rfl) cI) ?_
        refine S.sil 8 rfl rfl (fun _ hF => .move (lk 0 rfl rfl)) ?_
        refine S.nil ?_
        refine thenQ_n ?_
        exact ⟨_, h3.ret, (Wk.selS [0] (by decide) rfl (SelE.leaf (lk 0 rfl rfl) rfl (.refl _) (fun m => ((TyOk.int .i64).lt _ _)) (SelE.leaf (lk 12 rfl rfl) rfl (.refl _) (fun m => ((TyOk.int .i64).lt _ _)) (SelE.leaf (lk 13 rfl rfl) rfl (.refl _) (fun m => ((TyOk.int .i64).lt _ _)) (SelE.leaf (lk 14 rfl rfl) rfl (.refl _) (fun m => (lt_sl rfl (ty_TField.ltm _ _))) (SelE.spec (lk 15 rfl rfl) rfl (.refl _) (ren_fn rfl (renL_c rfl rfl)) (lt_fn ltL_nil (ltL_c rfl ltL_nil)) .nil))))) (.cons (lt_cells ((TyOk.int .i64).lt _ _)) rfl (RSub.trans (.refl _) (.eq ((TyOk.int .i64).cl _ _).symm)) .nil))⟩
    · skip
      refine AWp.exit ?_
      refine thenQ_x ?_
      refine thenQ_x ?_
      refine blockQ_x ?_
      refine thenQ_n ?_
      exact ⟨_, h3.ret, (Wk.selS [0] (by decide) rfl (SelE.leaf (lk 3 rfl rfl) rfl (.refl _) (fun m => ((TyOk.int .i64).lt _ _)) .nil) (.cons (lt_cells ((TyOk.int .i64).lt _ _)) rfl (RSub.trans (.refl _) (.eq ((TyOk.int .i64).cl _ _).symm)) .nil))⟩
  · skip
    refine thenQ_n ?_
    refine AWp.seq ?_
    refine W.reg [0] rfl ?_
    refine S.sil 4 rfl rfl (fun _ hF => .assign cI) ?_
    refine S.nil ?_
    refine thenQ_n ?_
    refine AWp.ret ?_
    obtain rfl := h.ret
    exact endF1 rfl (Wk.selS [0] (by decide) rfl (SelE.leaf (lk 0 rfl rfl) rfl (.refl _) (fun m => ((TyOk.int .i64).lt _ _)) .nil) (.cons (lt_cells ((TyOk.int .i64).lt _ _)) rfl (RSub.trans (.refl _) (.eq ((TyOk.int .i64).cl _ _).symm)) .nil)) (.tmp (lk 0 rfl rfl) rfl) rfl rfl
theorem C_slices_ContainsFunc_Field_Fits_1 {a1 : List TField} {b2 : Int} {r : Bool × Int} (h : slices_ContainsFunc_Field_Fits_1 a1 b2 = some r) : CallSpec Pg 49 [.sl 587 .no (List.map E_TField a1), .fn 50 [] [.ptr 0 [] 0]] [.cells ((V.int .i64) b2)] fun o H' => o = .ret (V.bool r.1) ∧ H' = [.cells ((V.int .i64) r.2)] := by
  refine CallSpec.of_bodyF 9 1 fn49 rfl rfl rfl (Nat.le_of_ble_eq_true rfl) ?_
  replace h := Ok.of h
  unfold slices_ContainsFunc_Field_Fits_1 at h
  refine AWp.seq ?_
  refine W.reg [0] rfl ?_
  refine S.sil 4 rfl rfl (fun _ hF => .assign cB) ?_
  refine S.nil ?_
  refine thenQ_n ?_
  refine AWp.seq ?_
  refine W.reg [0, 1, 2, 3, 4] rfl ?_
  refine S.sil 5 rfl rfl (fun _ hF => .move (lk 1 rfl rfl)) ?_
  refine S.sil 6 rfl rfl (fun _ hF => .move (lk 3 rfl rfl)) ?_
  obtain ⟨r3, m3, h⟩ := h.bnd
  refine S.eff 7 rfl rfl (.nf (v2 := (V.int .i64) r3.1) (H2 := [.cells ((V.int .i64) r3.2)]) (.callH ent42 cF [0] (C_slices_IndexFunc_Field_Fits_1 m3) (by decide) (.cons (lt_cells ((TyOk.int .i64).lt _ _)) rfl (RSub.trans (.refl _) (.eq ((TyOk.int .i64).cl _ _).symm)) .nil) (ltL_c (ty_S_TField.lt _ _) (ltL_c (lt_fn ltL_nil (ltL_c rfl ltL_nil)) ltL_nil)) (.c (lk 1 rfl rfl) (vsubr (V.sub.refl _) (ty_S_TField.lt _ _)) (.c (lk 0 rfl rfl) (subren (ren_fn rfl (renL_c rfl rfl))) .nil)) ((TyOk.int .i64).cl _ _) (mapc (ren_cells ((TyOk.int .i64).cl _ _)) rfl) rfl) rfl rfl) trivial ?_
  refine S.sil 8 rfl rfl (fun _ hF => .geq (lk 0 rfl rfl) cI) ?_
  refine S.sil 4 rfl rfl (fun _ hF => .assign (lk 0 rfl rfl)) ?_
  refine S.nil ?_
  refine thenQ_n ?_
  refine AWp.ret ?_
  obtain rfl := h.ret
  exact endF1 rfl (Wk.selS [0] (by decide) rfl (SelE.leaf (lk 0 rfl rfl) rfl (.refl _) (fun m => (TyOk.bool.lt _ _)) .nil) (.cons (lt_cells ((TyOk.int .i64).lt _ _)) rfl (RSub.trans (.refl _) (.eq ((TyOk.int .i64).cl _ _).symm)) .nil)) (.tmp (lk 0 rfl rfl) rfl) rfl rfl
theorem C_plan_Fits_2 {a1 : THold} {r : Bool} (h : plan_Fits_2 a1 = some r) : PureC Pg 51 [E_THold a1] (V.bool r) := by
  refine PureC.ofF (CallSpec.of_bodyF 6 0 fn51 rfl rfl rfl (Nat.le_of_ble_eq_true rfl) ?_) (ltL_c (ty_THold.lt _ _) ltL_nil) (TyOk.bool.lt _ _)
  replace h := Ok.of h
  unfold plan_Fits_2 at h
  refine AWp.seq ?_
  refine W.reg [0, 1] rfl ?_
  refine S.eff 1 rfl rfl (.nf (v2 := .ptr 0 [] 0) (H2 := [.cells (E_THold a1)]) (.box (lk 0 rfl rfl) rfl) rfl rfl) trivial ?_
  refine S.sil 2 rfl rfl (fun _ hF => .assign cB) ?_
  refine S.nil ?_
  refine thenQ_n ?_
  refine AWp.wk (Wk.freeze 0 rfl rfl (.same (lk 0 rfl rfl) (.cons (lk 1 rfl rfl) rfl (.ptr .nil (by first | rfl | omega)) .nil)) (.refl _)) ?_
  refine AWp.seq ?_
  refine W.reg [0, 1, 2, 3] rfl ?_
  refine S.sil 3 rfl rfl (fun _ hF => .fieldAddrC lay81 rfl rfl (lk 1 rfl rfl) rfl (flL_c (show flen _ = 1 from rfl) (flL_c (show flen _ = 1 from rfl) (flL_c (show flen _ = 1 from rfl) (flL_c (show flen _ = 1 from rfl) flL_nil))))) ?_
  refine S.sil 4 rfl rfl (fun _ hF => .loadC sz3 ag3 (lk 0 rfl rfl) rfl rfl) ?_
  refine S.sil 5 rfl rfl (fun _ hF => .eql (lk 0 rfl rfl) cI) ?_
  refine S.sil 2 rfl rfl (fun _ hF => .assign (lk 0 rfl rfl)) ?_
  refine S.nil ?_
  refine thenQ_n ?_
  refine AWp.ret ?_
  obtain rfl := h.ret
  exact endF1 rfl (Wk.selS [] .nil rfl (SelE.leaf (lk 0 rfl rfl) rfl (.refl _) (fun m => (TyOk.bool.lt _ _)) .nil) .nil) (.tmp (lk 0 rfl rfl) rfl) rfl rfl
theorem C_slices_IndexFunc_Hold_Fits_2 {a1 : List THold} {r : Int} (h : slices_IndexFunc_Hold_Fits_2 a1 = some r) : PureC Pg 98 [.sl 5 .no (List.map E_THold a1), .fn 51 [] []] ((V.int .i64) r) := by
  refine PureC.ofF (CallSpec.of_bodyF 19 0 fn98 rfl rfl rfl (Nat.le_of_ble_eq_true rfl) ?_) (ltL_c (lt_sl rfl (ty_THold.ltm _ _)) (ltL_c (lt_fn ltL_nil ltL_nil) ltL_nil)) ((TyOk.int .i64).lt _ _)
  replace h := Ok.of h
  unfold slices_IndexFunc_Hold_Fits_2 at h
  refine AWp.seq ?_
  refine W.reg [0] rfl ?_
  refine S.sil 4 rfl rfl (fun _ hF => .assign cI) ?_
  refine S.nil ?_
  refine thenQ_n ?_
  refine AWp.seq ?_
  refine AWp.seq ?_
  refine W.reg [0, 1, 2] rfl ?_
  refine S.sil 6 rfl rfl (fun _ hF => .move (lk 1 rfl rfl)) ?_
  refine S.sil 7 rfl rfl (fun _ hF => .lenT sli41 (lk 0 rfl rfl) (vsub rfl (.refl _))) ?_
  refine S.sil 8 rfl rfl (fun _ hF => .move cI) ?_
  refine S.nil ?_
  refine thenQ_n ?_
  refine AWp.cutL (fun x4 => ⟨[(4, (V.int .i64) 0)], []⟩) nc_then h (fun q2 hq2 h => ?_) (fun x4 h => ?_)
  · refine AWp.block ?_
    refine AWp.loopT (fun s3 => ⟨[(8, (V.int .i64) s3), (7, (V.int .i64) (a1.length : Int)), (4, (V.int .i64) 0), (0, .sl 5 .no (List.map E_THold a1)), (1, .fn 51 [] [])], []⟩) hq2 (Wk.selS [] (by decide) rfl (SelE.leaf (lk 0 rfl rfl) rfl (.refl _) (fun m => ((TyOk.int .i64).lt _ _)) (SelE.leaf (lk 1 rfl rfl) rfl (.refl _) (fun m => ((TyOk.int .i64).lt _ _)) (SelE.leaf (lk 3 rfl rfl) rfl (.refl _) (fun m => ((TyOk.int .i64).lt _ _)) (SelE.leaf (lk 4 rfl rfl) rfl (.refl _) (fun m => (lt_sl rfl (ty_THold.ltm _ _))) (SelE.leaf (lk 5 rfl rfl) rfl (.refl _) (fun m => (lt_fn ltL_nil ltL_nil)) .nil))))) .nil) (fun _ s3 h2 => ?_)
    rw [slices_IndexFunc_Hold_Fits_2_L1] at h2
    refine AWp.seq ?_
    refine W.reg [0] rfl ?_
    refine S.sil 9 rfl rfl (fun _ hF => .lss (lk 0 rfl rfl) (lk 1 rfl rfl)) ?_
    refine S.nil ?_
    refine thenQ_n ?_
    refine AWp.seq ?_
    refine AWp.condM (lk 0 rfl rfl) h2 (fun c1 h2 => ?_) (fun c1 h2 => ?_)
    · skip
      refine AWp.skip ?_
      refine thenQ_n ?_
      refine AWp.seq ?_
      refine AWp.block ?_
      refine AWp.seq ?_
      refine W.reg [0, 1] rfl ?_
      refine S.sil 10 rfl rfl (fun _ hF => .move (lk 1 rfl rfl)) ?_
      refine S.sil 5 rfl rfl (fun _ hF => .assign (lk 0 rfl rfl)) ?_
      refine S.nil ?_
      refine thenQ_n ?_
      refine AWp.seq ?_
      refine W.reg [0, 1, 2, 3, 4, 5] rfl ?_
      refine S.sil 11 rfl rfl (fun _ hF => .move (lk 7 rfl rfl)) ?_
      refine S.sil 12 rfl rfl (fun _ hF => .move (lk 7 rfl rfl)) ?_
      refine S.sil 13 rfl rfl (fun _ hF => .move (lk 2 rfl rfl)) ?_
      obtain ⟨j5, m5, h2⟩ := h2.bnd
      refine S.sil 14 rfl rfl (fun _ hF => .ixS sli41 (lk 1 rfl rfl) (lk 0 rfl rfl) m5) ?_
      obtain ⟨v6, ev6, h2⟩ := h2.nam
      refine S.sil 15 rfl rfl (fun _ hF => .nv (.loadC sz81 ag81 (lk 0 rfl rfl) (ty_THold.fl (a1.getD j5 default)) rfl) (congrArg E_THold ev6.symm)) ?_
      obtain ⟨r7, m7, h2⟩ := h2.bnd
      refine S.sil 16 rfl rfl (fun _ hF => .callQ ent51 (lk 4 rfl rfl) (.c (lk 0 rfl rfl) (V.sub.refl _) .nil) (C_plan_Fits_2 m7)) ?_
      refine S.nil ?_
      refine thenQ_n ?_
      refine AWp.condM (lk 0 rfl rfl) h2 (fun c2 h2 => ?_) (fun c2 h2 => ?_)
      · skip
        refine AWp.seq ?_
        refine W.reg [0, 1] rfl ?_
        refine S.sil 17 rfl rfl (fun _ hF => .move (lk 6 rfl rfl)) ?_
        refine S.sil 4 rfl rfl (fun _ hF => .assign (lk 0 rfl rfl)) ?_
        refine S.nil ?_
        refine thenQ_n ?_
        refine AWp.ret ?_
        refine blockQ_r ?_
        refine thenQ_r ?_
        refine thenQ_r ?_
        refine blockQ_r ?_
        refine thenQ_r ?_
        refine thenQ_r ?_
        have h := Ok.inrq h h2.ret
        obtain rfl := h.ret
        exact endF1 rfl (Wk.selS [] .nil rfl (SelE.leaf (lk 0 rfl rfl) rfl (.refl _) (fun m => ((TyOk.int .i64).lt _ _)) .nil) .nil) (.tmp (lk 0 rfl rfl) rfl) rfl rfl
      · skip
        refine AWp.skip ?_
        refine blockQ_n ?_
        refine thenQ_n ?_
        refine W.reg [0, 1] rfl ?_
        refine S.sil 18 rfl rfl (fun _ hF => .add (lk 9 rfl rfl) cI) ?_
        refine S.sil 8 rfl rfl (fun _ hF => .move (lk 0 rfl rfl)) ?_
        refine S.nil ?_
        refine thenQ_n ?_
        exact ⟨_, h2.ret, (Wk.selS [] (by decide) rfl (SelE.leaf (lk 0 rfl rfl) rfl (.refl _) (fun m => ((TyOk.int .i64).lt _ _)) (SelE.leaf (lk 12 rfl rfl) rfl (.refl _) (fun m => ((TyOk.int .i64).lt _ _)) (SelE.leaf (lk 13 rfl rfl) rfl (.refl _) (fun m => ((TyOk.int .i64).lt _ _)) (SelE.leaf (lk 14 rfl rfl) rfl (.refl _) (fun m => (lt_sl rfl (ty_THold.ltm _ _))) (SelE.leaf (lk 15 rfl rfl) rfl (.refl _) (fun m => (lt_fn ltL_nil ltL_nil)) .nil))))) .nil)⟩
    · skip
      refine AWp.exit ?_
      refine thenQ_x ?_
      refine thenQ_x ?_
      refine blockQ_x ?_
      refine thenQ_n ?_
      exact ⟨_, h2.ret, (Wk.selS [] (by decide) rfl (SelE.leaf (lk 3 rfl rfl) rfl (.refl _) (fun m => ((TyOk.int .i64).lt _ _)) .nil) .nil)⟩
  · skip
    refine thenQ_n ?_
    refine AWp.seq ?_
    refine W.reg [0] rfl ?_
    refine S.sil 4 rfl rfl (fun _ hF => .assign cI) ?_
    refine S.nil ?_
    refine thenQ_n ?_
    refine AWp.ret ?_
    obtain rfl := h.ret
    exact endF1 rfl (Wk.selS [] .nil rfl (SelE.leaf (lk 0 rfl rfl) rfl (.refl _) (fun m => ((TyOk.int .i64).lt _ _)) .nil) .nil) (.tmp (lk 0 rfl rfl) rfl) rfl rfl
theorem C_slices_ContainsFunc_Hold_Fits_2 {a1 : List THold} {r : Bool} (h : slices_ContainsFunc_Hold_Fits_2 a1 = some r) : PureC Pg 53 [.sl 5 .no (List.map E_THold a1), .fn 51 [] []] (V.bool r) := by
  refine PureC.ofF (CallSpec.of_bodyF 9 0 fn53 rfl rfl rfl (Nat.le_of_ble_eq_true rfl) ?_) (ltL_c (lt_sl rfl (ty_THold.ltm _ _)) (ltL_c (lt_fn ltL_nil ltL_nil) ltL_nil)) (TyOk.bool.lt _ _)
  replace h := Ok.of h
  unfold slices_ContainsFunc_Hold_Fits_2 at h
  refine AWp.seq ?_
  refine W.reg [0] rfl ?_
  refine S.sil 4 rfl rfl (fun _ hF => .assign cB) ?_
  refine S.nil ?_
  refine thenQ_n ?_
  refine AWp.seq ?_
  refine W.reg [0, 1, 2, 3, 4] rfl ?_
  refine S.sil 5 rfl rfl (fun _ hF => .move (lk 1 rfl rfl)) ?_
  refine S.sil 6 rfl rfl (fun _ hF => .move (lk 3 rfl rfl)) ?_
  obtain ⟨r2, m2, h⟩ := h.bnd
  refine S.sil 7 rfl rfl (fun _ hF => .callQ ent98 cF (.c (lk 1 rfl rfl) (V.sub.refl _) (.c (lk 0 rfl rfl) (V.sub.refl _) .nil)) (C_slices_IndexFunc_Hold_Fits_2 m2)) ?_
  refine S.sil 8 rfl rfl (fun _ hF => .geq (lk 0 rfl rfl) cI) ?_
  refine S.sil 4 rfl rfl (fun _ hF => .assign (lk 0 rfl rfl)) ?_
  refine S.nil ?_
  refine thenQ_n ?_
  refine AWp.ret ?_
  obtain rfl := h.ret
  exact endF1 rfl (Wk.selS [] .nil rfl (SelE.leaf (lk 0 rfl rfl) rfl (.refl _) (fun m => (TyOk.bool.lt _ _)) .nil) .nil) (.tmp (lk 0 rfl rfl) rfl) rfl rfl
theorem C_plan_Fits_3_Fits_2 {a1 : TField} {r : Bool} (h : plan_Fits_3_Fits_2 a1 = some r) : PureC Pg 52 [E_TField a1, .cptr (.fn 51 [] [])] (V.bool r) := by
  refine PureC.ofF (CallSpec.of_bodyF 8 0 fn52 rfl rfl rfl (Nat.le_of_ble_eq_true rfl) ?_) (ltL_c (ty_TField.lt _ _) (ltL_c (lt_cptr (lt_fn ltL_nil ltL_nil)) ltL_nil)) (TyOk.bool.lt _ _)
  replace h := Ok.of h
  unfold plan_Fits_3_Fits_2 at h
  refine AWp.seq ?_
  refine W.reg [0, 1] rfl ?_
  refine S.eff 2 rfl rfl (.nf (v2 := .ptr 0 [] 0) (H2 := [.cells (E_TField a1)]) (.box (lk 0 rfl rfl) rfl) rfl rfl) trivial ?_
  refine S.sil 3 rfl rfl (fun _ hF => .assign cB) ?_
  refine S.nil ?_
  refine thenQ_n ?_
  refine AWp.wk (Wk.freeze 0 rfl rfl (.same (lk 0 rfl rfl) (.cons (lk 1 rfl rfl) rfl (.ptr .nil (by first | rfl | omega)) (.same (lk 3 rfl rfl) .nil))) (.refl _)) ?_
  refine AWp.seq ?_
  refine W.reg [0, 1, 2, 3, 4] rfl ?_
  refine S.sil 4 rfl rfl (fun _ hF => .fieldAddrC lay43 rfl rfl (lk 1 rfl rfl) rfl (flL_c (show flen _ = 1 from rfl) (flL_c (show flen _ = 1 from rfl) (flL_c (show flen _ = 1 from rfl) (flL_c (ty_TCounter.fl a1.Counter) (flL_c (ty_TLock.fl a1.Lock) flL_nil)))))) ?_
  refine S.sil 5 rfl rfl (fun _ hF => .loadC sz41 ag41 (lk 0 rfl rfl) rfl rfl) ?_
  refine S.sil 6 rfl rfl (fun _ hF => .loadC sz82 ag82 (lk 4 rfl rfl) rfl rfl) ?_
  obtain ⟨r2, m2, h⟩ := h.bnd
  refine S.sil 7 rfl rfl (fun _ hF => .callQ ent53 cF (.c (lk 1 rfl rfl) (V.sub.refl _) (.c (lk 0 rfl rfl) (V.sub.refl _) .nil)) (C_slices_ContainsFunc_Hold_Fits_2 m2)) ?_
  refine S.sil 3 rfl rfl (fun _ hF => .assign (lk 0 rfl rfl)) ?_
  refine S.nil ?_
  refine thenQ_n ?_
  refine AWp.ret ?_
  obtain rfl := h.ret
  exact endF1 rfl (Wk.selS [] .nil rfl (SelE.leaf (lk 0 rfl rfl) rfl (.refl _) (fun m => (TyOk.bool.lt _ _)) .nil) .nil) (.tmp (lk 0 rfl rfl) rfl) rfl rfl
theorem C_slices_IndexFunc_Field_Fits_3_Fits_2 {a1 : List TField} {r : Int} (h : slices_IndexFunc_Field_Fits_3_Fits_2 a1 = some r) : PureC Pg 42 [.sl 587 .no (List.map E_TField a1), .fn 52 [] [.cptr (.fn 51 [] [])]] ((V.int .i64) r) := by
  refine PureC.ofF (CallSpec.of_bodyF 19 0 fn42 rfl rfl rfl (Nat.le_of_ble_eq_true rfl) ?_) (ltL_c (lt_sl rfl (ty_TField.ltm _ _)) (ltL_c (lt_fn ltL_nil (ltL_c (lt_cptr (lt_fn ltL_nil ltL_nil)) ltL_nil)) ltL_nil)) ((TyOk.int .i64).lt _ _)
  replace h := Ok.of h
  unfold slices_IndexFunc_Field_Fits_3_Fits_2 at h
  refine AWp.seq ?_
  refine W.reg [0] rfl ?_
  refine S.sil 4 rfl rfl (fun _ hF => .assign cI) ?_
  refine S.nil ?_
  refine thenQ_n ?_
  refine AWp.seq ?_
  refine AWp.seq ?_
  refine W.reg [0, 1, 2] rfl ?_
  refine S.sil 6 rfl rfl (fun _ hF => .move (lk 1 rfl rfl)) ?_
  refine S.sil 7 rfl rfl (fun _ hF => .lenT sli22 (lk 0 rfl rfl) (vsub rfl (.refl _))) ?_
  refine S.sil 8 rfl rfl (fun _ hF => .move cI) ?_
  refine S.nil ?_
  refine thenQ_n ?_
  refine AWp.cutL (fun x4 => ⟨[(4, (V.int .i64) 0)], []⟩) nc_then h (fun q2 hq2 h => ?_) (fun x4 h => ?_)
  · refine AWp.block ?_
    refine AWp.loopT (fun s3 => ⟨[(8, (V.int .i64) s3), (7, (V.int .i64) (a1.length : Int)), (4, (V.int .i64) 0), (0, .sl 587 .no (List.map E_TField a1)), (1, .fn 52 [] [.cptr (.fn 51 [] [])])], []⟩) hq2 (Wk.selS [] (by decide) rfl (SelE.leaf (lk 0 rfl rfl) rfl (.refl _) (fun m => ((TyOk.int .i64).lt _ _)) (SelE.leaf (lk 1 rfl rfl) rfl (.refl _) (fun m => ((TyOk.int .i64).lt _ _)) (SelE.leaf (lk 3 rfl rfl) rfl (.refl _) (fun m => ((TyOk.int .i64).lt _ _)) (SelE.leaf (lk 4 rfl rfl) rfl (.refl _) (fun m => (lt_sl rfl (ty_TField.ltm _ _))) (SelE.leaf (lk 5 rfl rfl) rfl (.refl _) (fun m => (lt_fn ltL_nil (ltL_c (lt_cptr (lt_fn ltL_nil ltL_nil)) ltL_nil))) .nil))))) .nil) (fun _ s3 h2 => ?_)
    rw [slices_IndexFunc_Field_Fits_3_Fits_2_L1] at h2
    refine AWp.seq ?_
    refine W.reg [0] rfl ?_
    refine S.sil 9 rfl rfl (fun _ hF => .lss (lk 0 rfl rfl) (lk 1 rfl rfl)) ?_
    refine S.nil ?_
    refine thenQ_n ?_
    refine AWp.seq ?_
    refine AWp.condM (lk 0 rfl rfl) h2 (fun c1 h2 => ?_) (fun c1 h2 => ?_)
    · skip
      refine AWp.skip ?_
      refine thenQ_n ?_
      refine AWp.seq ?_
      refine AWp.block ?_
      refine AWp.seq ?_
      refine W.reg [0, 1] rfl ?_
      refine S.sil 10 rfl rfl (fun _ hF => .move (lk 1 rfl rfl)) ?_
      refine S.sil 5 rfl rfl (fun _ hF => .assign (lk 0 rfl rfl)) ?_
      refine S.nil ?_
      refine thenQ_n ?_
      refine AWp.seq ?_
      refine W.reg [0, 1, 2, 3, 4, 5] rfl ?_
      refine S.sil 11 rfl rfl (fun _ hF => .move (lk 7 rfl rfl)) ?_
      refine S.sil 12 rfl rfl (fun _ hF => .move (lk 7 rfl rfl)) ?_
      refine S.sil 13 rfl rfl (fun _ hF => .move (lk 2 rfl rfl)) ?_
      obtain ⟨j5, m5, h2⟩ := h2.bnd
      refine S.sil 14 rfl rfl (fun _ hF => .ixS sli22 (lk 1 rfl rfl) (lk 0 rfl rfl) m5) ?_
      obtain ⟨v6, ev6, h2⟩ := h2.nam
      refine S.sil 15 rfl rfl (fun _ hF => .nv (.loadC sz43 ag43 (lk 0 rfl rfl) (ty_TField.fl (a1.getD j5 default)) rfl) (congrArg E_TField ev6.symm)) ?_
      obtain ⟨r7, m7, h2⟩ := h2.bnd
      refine S.sil 16 rfl rfl (fun _ hF => .callQ ent52 (lk 4 rfl rfl) (.c (lk 0 rfl rfl) (V.sub.refl _) (.cons (.refl _) .nil)) (C_plan_Fits_3_Fits_2 m7)) ?_
      refine S.nil ?_
      refine thenQ_n ?_
      refine AWp.condM (lk 0 rfl rfl) h2 (fun c2 h2 => ?_) (fun c2 h2 => ?_)
      · skip
        refine AWp.seq ?_
        refine W.reg [0, 1] rfl ?_
        refine S.sil 17 rfl rfl (fun _ hF => .move (lk 6 rfl rfl)) ?_
        refine S.sil 4 rfl rfl (fun _ hF => .assign (lk 0 rfl rfl)) ?_
        refine S.nil ?_
        refine thenQ_n ?_
        refine AWp.ret ?_
        refine blockQ_r ?_
        refine thenQ_r ?_
        refine thenQ_r ?_
        refine blockQ_r ?_
        refine thenQ_r ?_
        refine thenQ_r ?_
        have h := Ok.inrq h h2.ret
        obtain rfl := h.ret
        exact endF1 rfl (Wk.selS [] .nil rfl (SelE.leaf (lk 0 rfl rfl) rfl (.refl _) (fun m => ((TyOk.int .i64).lt _ _)) .nil) .nil) (.tmp (lk 0 rfl rfl) rfl) rfl rfl
      · skip
        refine AWp.skip ?_
        refine blockQ_n ?_
        refine thenQ_n ?_
        refine W.reg [0, 1] rfl ?_
        refine S.sil 18 rfl rfl (fun _ hF => .add (lk 9 rfl rfl) cI) ?_
        refine S.sil 8 rfl rfl (fun _ hF => .move (lk 0 rfl rfl)) ?_
        refine S.nil ?_
        refine thenQ_n ?_
        exact ⟨_, h2.ret, (Wk.selS [] (by decide) rfl (SelE.leaf (lk 0 rfl rfl) rfl (.refl _) (fun m => ((TyOk.int .i64).lt _ _)) (SelE.leaf (lk 12 rfl rfl) rfl (.refl _) (fun m => ((TyOk.int .i64).lt _ _)) (SelE.leaf (lk 13 rfl rfl) rfl (.refl _) (fun m => ((TyOk.int .i64).lt _ _)) (SelE.leaf (lk 14 rfl rfl) rfl (.refl _) (fun m => (lt_sl rfl (ty_TField.ltm _ _))) (SelE.leaf (lk 15 rfl rfl) rfl (.refl _) (fun m => (lt_fn ltL_nil (ltL_c (lt_cptr (lt_fn ltL_nil ltL_nil)) ltL_nil))) .nil))))) .nil)⟩
    · skip
      refine AWp.exit ?_
      refine thenQ_x ?_
      refine thenQ_x ?_
      refine blockQ_x ?_
      refine thenQ_n ?_
      exact ⟨_, h2.ret, (Wk.selS [] (by decide) rfl (SelE.leaf (lk 3 rfl rfl) rfl (.refl _) (fun m => ((TyOk.int .i64).lt _ _)) .nil) .nil)⟩
  · skip
    refine thenQ_n ?_
    refine AWp.seq ?_
    refine W.reg [0] rfl ?_
    refine S.sil 4 rfl rfl (fun _ hF => .assign cI) ?_
    refine S.nil ?_
    refine thenQ_n ?_
    refine AWp.ret ?_
    obtain rfl := h.ret
    exact endF1 rfl (Wk.selS [] .nil rfl (SelE.leaf (lk 0 rfl rfl) rfl (.refl _) (fun m => ((TyOk.int .i64).lt _ _)) .nil) .nil) (.tmp (lk 0 rfl rfl) rfl) rfl rfl
theorem C_slices_ContainsFunc_Field_Fits_3_Fits_2 {a1 : List TField} {r : Bool} (h : slices_ContainsFunc_Field_Fits_3_Fits_2 a1 = some r) : PureC Pg 49 [.sl 587 .no (List.map E_TField a1), .fn 52 [] [.cptr (.fn 51 [] [])]] (V.bool r) := by
  refine PureC.ofF (CallSpec.of_bodyF 9 0 fn49 rfl rfl rfl (Nat.le_of_ble_eq_true rfl) ?_) (ltL_c (lt_sl rfl (ty_TField.ltm _ _)) (ltL_c (lt_fn ltL_nil (ltL_c (lt_cptr (lt_fn ltL_nil ltL_nil)) ltL_nil)) ltL_nil)) (TyOk.bool.lt _ _)
  replace h := Ok.of h
  unfold slices_ContainsFunc_Field_Fits_3_Fits_2 at h
  refine AWp.seq ?_
  refine W.reg [0] rfl ?_
  refine S.sil 4 rfl rfl (fun _ hF => .assign cB) ?_
  refine S.nil ?_
  refine thenQ_n ?_
  refine AWp.seq ?_
  refine W.reg [0, 1, 2, 3, 4] rfl ?_
  refine S.sil 5 rfl rfl (fun _ hF => .move (lk 1 rfl rfl)) ?_
  refine S.sil 6 rfl rfl (fun _ hF => .move (lk 3 rfl rfl)) ?_
  obtain ⟨r2, m2, h⟩ := h.bnd
  refine S.sil 7 rfl rfl (fun _ hF => .callQ ent42 cF (.c (lk 1 rfl rfl) (V.sub.refl _) (.c (lk 0 rfl rfl) (V.sub.refl _) .nil)) (C_slices_IndexFunc_Field_Fits_3_Fits_2 m2)) ?_
  refine S.sil 8 rfl rfl (fun _ hF => .geq (lk 0 rfl rfl) cI) ?_
  refine S.sil 4 rfl rfl (fun _ hF => .assign (lk 0 rfl rfl)) ?_
  refine S.nil ?_
  refine thenQ_n ?_
  refine AWp.ret ?_
  obtain rfl := h.ret
  exact endF1 rfl (Wk.selS [] .nil rfl (SelE.leaf (lk 0 rfl rfl) rfl (.refl _) (fun m => (TyOk.bool.lt _ _)) .nil) .nil) (.tmp (lk 0 rfl rfl) rfl) rfl rfl
theorem C_plan_Fits {a1 : List TField} {a2 : TPlan} {r : Int} (h : plan_Fits a1 a2 = some r) : PureC Pg 17 [.sl 587 .no (List.map E_TField a1), E_TPlan a2] ((V.int .i64) r) := by
  refine PureC.ofF (CallSpec.of_bodyF 70 0 fn17 rfl rfl rfl (Nat.le_of_ble_eq_true rfl) ?_) (ltL_c (lt_sl rfl (ty_TField.ltm _ _)) (ltL_c (ty_TPlan.lt _ _) ltL_nil)) ((TyOk.int .i64).lt _ _)
  replace h := Ok.of h
  unfold plan_Fits at h
  refine AWp.seq ?_
  refine W.reg [0, 1] rfl ?_
  refine S.eff 3 rfl rfl (.nf (v2 := .ptr 0 [] 0) (H2 := [.cells (E_TPlan a2)]) (.box (lk 1 rfl rfl) rfl) rfl rfl) trivial ?_
  refine S.sil 4 rfl rfl (fun _ hF => .assign cI) ?_
  refine S.nil ?_
  refine thenQ_n ?_
  refine AWp.wk (Wk.freeze 0 rfl rfl (.same (lk 0 rfl rfl) (.cons (lk 1 rfl rfl) rfl (.ptr .nil (by first | rfl | omega)) (.same (lk 2 rfl rfl) .nil))) (.refl _)) ?_
  refine AWp.seq ?_
  refine AWp.block ?_
  refine AWp.seq ?_
  refine W.reg [0, 1, 2, 3] rfl ?_
  refine S.sil 15 rfl rfl (fun _ hF => .move (lk 2 rfl rfl)) ?_
  obtain ⟨r3, m3, h⟩ := h.bnd
  refine S.sil 16 rfl rfl (fun _ hF => .callQ ent13 cF (.c (lk 0 rfl rfl) (V.sub.refl _) .nil) (C_plan_Fields m3)) ?_
  refine S.sil 17 rfl rfl (fun _ hF => .not (lk 0 rfl rfl)) ?_
  refine S.sil 14 rfl rfl (fun _ hF => .assign (lk 0 rfl rfl)) ?_
  refine S.nil ?_
  refine thenQ_n ?_
  refine AWp.condM (lk 0 rfl rfl) h (fun c1 h => ?_) (fun c1 h => ?_)
  · skip
    refine AWp.seq ?_
    refine W.reg [0] rfl ?_
    refine S.sil 4 rfl rfl (fun _ hF => .assign cI) ?_
    refine S.nil ?_
    refine thenQ_n ?_
    refine AWp.ret ?_
    refine blockQ_r ?_
    refine thenQ_r ?_
    obtain rfl := h.ret
    exact endF1 rfl (Wk.selS [] .nil rfl (SelE.leaf (lk 0 rfl rfl) rfl (.refl _) (fun m => ((TyOk.int .i64).lt _ _)) .nil) .nil) (.tmp (lk 0 rfl rfl) rfl) rfl rfl
  · skip
    refine AWp.seq ?_
    refine W.reg [0, 1, 2, 3] rfl ?_
    refine S.sil 19 rfl rfl (fun _ hF => .loadC sz24 ag24 (lk 5 rfl rfl) (ty_TPlan.fl a2) rfl) ?_
    obtain ⟨r4, m4, h⟩ := h.bnd
    refine S.sil 20 rfl rfl (fun _ hF => .callQ ent15 cF (.c (lk 0 rfl rfl) (V.sub.refl _) .nil) (C_plan_Right m4)) ?_
    refine S.sil 21 rfl rfl (fun _ hF => .not (lk 0 rfl rfl)) ?_
    refine S.sil 18 rfl rfl (fun _ hF => .assign (lk 0 rfl rfl)) ?_
    refine S.nil ?_
    refine thenQ_n ?_
    refine AWp.condM (lk 0 rfl rfl) h (fun c2 h => ?_) (fun c2 h => ?_)
    · skip
      refine AWp.seq ?_
      refine W.reg [0] rfl ?_
      refine S.sil 4 rfl rfl (fun _ hF => .assign cI) ?_
      refine S.nil ?_
      refine thenQ_n ?_
      refine AWp.ret ?_
      refine blockQ_r ?_
      refine thenQ_r ?_
      obtain rfl := h.ret
      exact endF1 rfl (Wk.selS [] .nil rfl (SelE.leaf (lk 0 rfl rfl) rfl (.refl _) (fun m => ((TyOk.int .i64).lt _ _)) .nil) .nil) (.tmp (lk 0 rfl rfl) rfl) rfl rfl
    · skip
      refine AWp.skip ?_
      refine blockQ_n ?_
      refine thenQ_n ?_
      refine AWp.seq ?_
      refine W.reg [0] rfl ?_
      refine S.sil 5 rfl rfl (fun _ hF => .assign cNs) ?_
      refine S.nil ?_
      refine thenQ_n ?_
      refine AWp.seq ?_
      refine AWp.seq ?_
      refine W.reg [0, 1, 2, 3] rfl ?_
      refine S.sil 22 rfl rfl (fun _ hF => .loadC sz24 ag24 (lk 10 rfl rfl) (ty_TPlan.fl a2) rfl) ?_
      obtain ⟨r5, m5, h⟩ := h.bnd
      refine S.sil 23 rfl rfl (fun _ hF => .callQ ent48 cF (.c (lk 0 rfl rfl) (V.sub.refl _) .nil) (C_plan_names m5)) ?_
      refine S.sil 24 rfl rfl (fun _ hF => .lenT sli77 (lk 0 rfl rfl) (vsub rfl (.refl _))) ?_
      refine S.sil 25 rfl rfl (fun _ hF => .move cI) ?_
      refine S.nil ?_
      refine thenQ_n ?_
      refine AWp.cutL (fun x8 => ⟨[(5, .sl 587 (.tok 0) (List.map E_TField x8)), (4, (V.int .i64) 0), (3, .cptr (E_TPlan a2)), (0, .sl 587 .no (List.map E_TField a1))], [.tail]⟩) nc_then h (fun q6 hq6 h => ?_) (fun x8 h => ?_)
      · refine AWp.block ?_
        refine AWp.loopT (fun s7 => ⟨[(25, (V.int .i64) s7.1), (24, (V.int .i64) (r5.length : Int)), (23, .sl 1 .no (List.map V.str r5)), (5, .sl 587 (.tok 0) (List.map E_TField s7.2)), (4, (V.int .i64) 0), (3, .cptr (E_TPlan a2)), (0, .sl 587 .no (List.map E_TField a1))], [.tail]⟩) hq6 (Wk.vacant.trans (Wk.selS [1] (by decide) rfl (SelE.leaf (lk 0 rfl rfl) rfl (.refl _) (fun m => ((TyOk.int .i64).lt _ _)) (SelE.leaf (lk 1 rfl rfl) rfl (.refl _) (fun m => ((TyOk.int .i64).lt _ _)) (SelE.leaf (lk 2 rfl rfl) rfl (.refl _) (fun m => (lt_sl rfl (TyOk.str.ltm _ _))) (SelE.spec (lk 4 rfl rfl) rfl (.nils_tok _ _) (ren_sl ty_TField _) (lt_sl rfl (ty_TField.ltm _ _)) (SelE.leaf (lk 13 rfl rfl) rfl (.refl _) (fun m => ((TyOk.int .i64).lt _ _)) (SelE.leaf (lk 14 rfl rfl) rfl (.refl _) (fun m => (lt_cptr (ty_TPlan.lt _ _))) (SelE.leaf (lk 15 rfl rfl) rfl (.refl _) (fun m => (lt_sl rfl (ty_TField.ltm _ _))) .nil))))))) (.cons rfl rfl trivial .nil))) (fun _ s7 h6 => ?_)
        rw [plan_Fits_L1] at h6
        refine AWp.seq ?_
        refine W.reg [0] rfl ?_
        refine S.sil 26 rfl rfl (fun _ hF => .lss (lk 0 rfl rfl) (lk 1 rfl rfl)) ?_
        refine S.nil ?_
        refine thenQ_n ?_
        refine AWp.seq ?_
        refine AWp.condM (lk 0 rfl rfl) h6 (fun c3 h6 => ?_) (fun c3 h6 => ?_)
        · skip
          refine AWp.skip ?_
          refine thenQ_n ?_
          refine AWp.seq ?_
          refine AWp.block ?_
          refine AWp.seq ?_
          refine W.reg [0, 1, 2] rfl ?_
          obtain ⟨j9, m9, h6⟩ := h6.bnd
          refine S.sil 27 rfl rfl (fun _ hF => .ixS sli77 (lk 3 rfl rfl) (lk 1 rfl rfl) m9) ?_
          refine S.sil 28 rfl rfl (fun _ hF => .loadC sz9 ag9 (lk 0 rfl rfl) rfl rfl) ?_
          refine S.sil 7 rfl rfl (fun _ hF => .assign (lk 0 rfl rfl)) ?_
          refine S.nil ?_
          refine thenQ_n ?_
          refine AWp.seq ?_
          refine W.reg [0, 1, 2, 3, 4, 5, 6, 7] rfl ?_
          refine S.sil 30 rfl rfl (fun _ hF => .move (lk 10 rfl rfl)) ?_
          refine S.sil 31 rfl rfl (fun _ hF => .move (lk 1 rfl rfl)) ?_
          obtain ⟨r10, m10, h6⟩ := h6.bnd
          refine S.sil 32 rfl rfl (fun _ hF => .callQ ent11 cF (.c (lk 1 rfl rfl) (V.sub.refl _) (.c (lk 0 rfl rfl) (V.sub.refl _) .nil)) (C_plan_Find m10)) ?_
          refine S.sil 29 rfl rfl (fun _ hF => .move (lk 0 rfl rfl)) ?_
          refine S.sil 33 rfl rfl (fun _ hF => .extract (lk 0 rfl rfl) rfl) ?_
          refine S.sil 34 rfl rfl (fun _ hF => .extract (lk 1 rfl rfl) rfl) ?_
          refine S.sil 8 rfl rfl (fun _ hF => .assign (lk 1 rfl rfl)) ?_
          refine S.sil 9 rfl rfl (fun _ hF => .assign (lk 1 rfl rfl)) ?_
          refine S.nil ?_
          refine thenQ_n ?_
          refine AWp.seq ?_
          refine AWp.seq ?_
          refine W.reg [0, 1] rfl ?_
          refine S.sil 35 rfl rfl (fun _ hF => .move (lk 0 rfl rfl)) ?_
          refine S.sil 36 rfl rfl (fun _ hF => .not (lk 0 rfl rfl)) ?_
          refine S.nil ?_
          refine thenQ_n ?_
          refine AWp.condM (lk 0 rfl rfl) h6 (fun c4 h6 => ?_) (fun c4 h6 => ?_)
          · skip
            refine AWp.seq ?_
            refine W.reg [0] rfl ?_
            refine S.sil 4 rfl rfl (fun _ hF => .assign cI) ?_
            refine S.nil ?_
            refine thenQ_n ?_
            refine AWp.ret ?_
            refine thenQ_r ?_
            refine blockQ_r ?_
            refine thenQ_r ?_
            refine thenQ_r ?_
            refine blockQ_r ?_
            refine thenQ_r ?_
            refine thenQ_r ?_
            have h := Ok.inrq h h6.ret
            obtain rfl := h.ret
            exact endF1 rfl (Wk.selS [] .nil rfl (SelE.leaf (lk 0 rfl rfl) rfl (.refl _) (fun m => ((TyOk.int .i64).lt _ _)) .nil) .nil) (.tmp (lk 0 rfl rfl) rfl) rfl rfl
          · skip
            refine AWp.skip ?_
            refine thenQ_n ?_
            refine W.reg [0, 1, 2, 3, 4, 5, 6, 7] rfl ?_
            refine S.sil 37 rfl rfl (fun _ hF => .move (lk 17 rfl rfl)) ?_
            refine S.sil 38 rfl rfl (fun _ hF => .move (lk 21 rfl rfl)) ?_
            refine S.sil 39 rfl rfl (fun _ hF => .move (lk 5 rfl rfl)) ?_
            obtain ⟨j11, m11, h6⟩ := h6.bnd
            refine S.sil 40 rfl rfl (fun _ hF => .ixS sli22 (lk 1 rfl rfl) (lk 0 rfl rfl) m11) ?_
            obtain ⟨v12, ev12, h6⟩ := h6.nam
            refine S.sil 41 rfl rfl (fun _ hF => .nv (.loadC sz43 ag43 (lk 0 rfl rfl) (ty_TField.fl (a1.getD j11 default)) rfl) (congrArg E_TField ev12.symm)) ?_
            refine S.sil 42 rfl rfl (fun _ hF => .buildSliceW sli22 zv43 rfl rfl (by decide) (.cons (lk 0 rfl rfl) rfl (.refl _) (ty_TField.fl v12) .nil)) ?_
            obtain ⟨l13, m13, h6⟩ := h6.bnd
            refine S.eff 43 rfl rfl (.nf (v2 := .sl 587 (.tok 1) (List.map E_TField l13)) (H2 := [.dead, .tail]) (.appT sli22 und22 zv43 rfl (by decide) (lk 5 rfl rfl) rfl (lk 0 rfl rfl) Rd.sl m13 rfl) rfl rfl) trivial ?_
            refine S.sil 5 rfl rfl (fun _ hF => .assign (lk 0 rfl rfl)) ?_
            refine S.nil ?_
            refine blockQ_n ?_
            refine thenQ_n ?_
            refine W.reg [0, 1] rfl ?_
            refine S.sil 44 rfl rfl (fun _ hF => .add (lk 22 rfl rfl) cI) ?_
            refine S.sil 25 rfl rfl (fun _ hF => .move (lk 0 rfl rfl)) ?_
            refine S.nil ?_
            refine thenQ_n ?_
            exact ⟨_, h6.ret, (Wk.selS [1] (by decide) rfl (SelE.leaf (lk 0 rfl rfl) rfl (.refl _) (fun m => ((TyOk.int .i64).lt _ _)) (SelE.leaf (lk 25 rfl rfl) rfl (.refl _) (fun m => ((TyOk.int .i64).lt _ _)) (SelE.leaf (lk 26 rfl rfl) rfl (.refl _) (fun m => (lt_sl rfl (TyOk.str.ltm _ _))) (SelE.spec (lk 2 rfl rfl) rfl (.refl _) (ren_sl ty_TField _) (lt_sl rfl (ty_TField.ltm _ _)) (SelE.leaf (lk 28 rfl rfl) rfl (.refl _) (fun m => ((TyOk.int .i64).lt _ _)) (SelE.leaf (lk 29 rfl rfl) rfl (.refl _) (fun m => (lt_cptr (ty_TPlan.lt _ _))) (SelE.leaf (lk 30 rfl rfl) rfl (.refl _) (fun m => (lt_sl rfl (ty_TField.ltm _ _))) .nil))))))) (.cons rfl rfl trivial .nil))⟩
        · skip
          refine AWp.exit ?_
          refine thenQ_x ?_
          refine thenQ_x ?_
          refine blockQ_x ?_
          refine thenQ_n ?_
          exact ⟨_, h6.ret, (Wk.selS [0] (by decide) rfl (SelE.spec (lk 4 rfl rfl) rfl (.refl _) (ren_sl ty_TField _) (lt_sl rfl (ty_TField.ltm _ _)) (SelE.leaf (lk 5 rfl rfl) rfl (.refl _) (fun m => ((TyOk.int .i64).lt _ _)) (SelE.leaf (lk 6 rfl rfl) rfl (.refl _) (fun m => (lt_cptr (ty_TPlan.lt _ _))) (SelE.leaf (lk 7 rfl rfl) rfl (.refl _) (fun m => (lt_sl rfl (ty_TField.ltm _ _))) .nil)))) (.cons rfl rfl trivial .nil))⟩
      · skip
        refine thenQ_n ?_
        refine AWp.seq ?_
        refine AWp.seq ?_
        refine W.reg [0, 1, 2, 3, 4, 5, 6, 7, 8] rfl ?_
        refine S.sil 46 rfl rfl (fun _ hF => .move (lk 3 rfl rfl)) ?_
        refine S.sil 47 rfl rfl (fun _ hF => .fieldAddrC lay24 rfl rfl (lk 3 rfl rfl) rfl (flL_c (show flen _ = 1 from rfl) (flL_c (show flen _ = 1 from rfl) flL_nil))) ?_
        refine S.sil 48 rfl rfl (fun _ hF => .loadC sz9 ag9 (lk 0 rfl rfl) rfl rfl) ?_
        obtain ⟨r14, m14, h⟩ := h.bnd
        refine S.sil 49 rfl rfl (fun _ hF => .callQ ent11 cF (.c (lk 2 rfl rfl) (V.sub.refl _) (.c (lk 0 rfl rfl) (V.sub.refl _) .nil)) (C_plan_Find m14)) ?_
        refine S.sil 45 rfl rfl (fun _ hF => .move (lk 0 rfl rfl)) ?_
        refine S.sil 50 rfl rfl (fun _ hF => .extract (lk 0 rfl rfl) rfl) ?_
        refine S.sil 51 rfl rfl (fun _ hF => .extract (lk 1 rfl rfl) rfl) ?_
        refine S.sil 10 rfl rfl (fun _ hF => .assign (lk 1 rfl rfl)) ?_
        refine S.sil 11 rfl rfl (fun _ hF => .assign (lk 1 rfl rfl)) ?_
        refine S.nil ?_
        refine thenQ_n ?_
        refine AWp.seq ?_
        refine W.reg [0, 1, 2] rfl ?_
        refine S.sil 52 rfl rfl (fun _ hF => .fieldAddrC lay24 rfl rfl (lk 11 rfl rfl) rfl flL_nil) ?_
        refine S.sil 53 rfl rfl (fun _ hF => .loadC sz3 ag3 (lk 0 rfl rfl) rfl rfl) ?_
        refine S.sil 54 rfl rfl (fun _ hF => .eql (lk 0 rfl rfl) cI) ?_
        refine S.nil ?_
        refine thenQ_n ?_
        refine AWp.prune (.eq (lk 0 rfl rfl) rfl (.eq (lk 3 rfl rfl) rfl (.eq (lk 12 rfl rfl) rfl (.eq (lk 13 rfl rfl) rfl (.eq (lk 14 rfl rfl) rfl (.eq (lk 15 rfl rfl) rfl .nil)))))) ?_
        refine AWp.condM (lk 0 rfl rfl) h (fun c5 h => ?_) (fun c5 h => ?_)
        · skip
          refine AWp.block ?_
          refine AWp.seq ?_
          refine W.reg [0, 1] rfl ?_
          refine S.sil 56 rfl rfl (fun _ hF => .move (lk 1 rfl rfl)) ?_
          refine S.sil 55 rfl rfl (fun _ hF => .assign (lk 0 rfl rfl)) ?_
          refine S.nil ?_
          refine thenQ_n ?_
          refine AWp.condM (lk 0 rfl rfl) h (fun c6 h => ?_) (fun c6 h => ?_)
          · skip
            refine AWp.seq ?_
            refine W.reg [0] rfl ?_
            refine S.sil 4 rfl rfl (fun _ hF => .assign cI) ?_
            refine S.nil ?_
            refine thenQ_n ?_
            refine AWp.ret ?_
            refine blockQ_r ?_
            refine thenQ_r ?_
            obtain rfl := h.ret
            exact endF1 rfl (Wk.selS [] .nil rfl (SelE.leaf (lk 0 rfl rfl) rfl (.refl _) (fun m => ((TyOk.int .i64).lt _ _)) .nil) .nil) (.tmp (lk 0 rfl rfl) rfl) rfl rfl
          · skip
            refine AWp.seq ?_
            refine W.reg [0, 1, 2, 3] rfl ?_
            refine S.sil 58 rfl rfl (fun _ hF => .move (lk 7 rfl rfl)) ?_
            refine S.sil 59 rfl rfl (fun _ hF => .lenT sli22 (lk 0 rfl rfl) (vsub rfl (.refl _))) ?_
            refine S.sil 60 rfl rfl (fun _ hF => .eql (lk 0 rfl rfl) cI) ?_
            obtain ⟨v15, ev15, h⟩ := h.nam
            refine S.sil 57 rfl rfl (fun _ hF => .nv (.assign (lk 0 rfl rfl)) (congrArg V.bool ev15.symm)) ?_
            refine S.nil ?_
            refine thenQ_n ?_
            refine AWp.condM (lk 0 rfl rfl) h (fun c7 h => ?_) (fun c7 h => ?_)
            · skip
              refine AWp.seq ?_
              refine W.reg [0] rfl ?_
              refine S.sil 4 rfl rfl (fun _ hF => .assign cI) ?_
              refine S.nil ?_
              refine thenQ_n ?_
              refine AWp.prune (.eq (lk 0 rfl rfl) rfl (.eq (lk 9 rfl rfl) rfl (.eq (lk 11 rfl rfl) rfl .nil))) ?_
              refine AWp.ret ?_
              refine blockQ_r ?_
              refine thenQ_r ?_
              obtain rfl := h.ret
              exact endF1 rfl (Wk.selS [] .nil rfl (SelE.leaf (lk 0 rfl rfl) rfl (.refl _) (fun m => ((TyOk.int .i64).lt _ _)) .nil) .nil) (.tmp (lk 0 rfl rfl) rfl) rfl rfl
            · skip
              refine AWp.skip ?_
              refine blockQ_n ?_
              refine thenQ_n ?_
              refine AWp.seq ?_
              refine W.reg [0, 1] rfl ?_
              refine S.eff 12 rfl rfl (.nf (v2 := .ptr 1 [] 0) (H2 := [.tail, .cells ((V.int .i64) 0)]) (.alloc zv3) rfl rfl) trivial ?_
              refine S.effN rfl rfl (.nf (H2 := [.tail, .cells ((V.int .i64) 1)]) (.storeP sz3 (lk 0 rfl rfl) cI rfl (.refl _) rfl .nil (by first | rfl | omega) .nil rfl rfl rfl) rfl rfl) trivial ?_
              refine S.nil ?_
              refine thenQ_n ?_
              refine AWp.seq ?_
              refine AWp.seq ?_
              refine W.reg [0, 1, 2] rfl ?_
              refine S.sil 61 rfl rfl (fun _ hF => .fieldAddrC lay24 rfl rfl (lk 11 rfl rfl) rfl flL_nil) ?_
              refine S.sil 62 rfl rfl (fun _ hF => .loadC sz3 ag3 (lk 0 rfl rfl) rfl rfl) ?_
              refine S.sil 63 rfl rfl (fun _ hF => .eql (lk 0 rfl rfl) cI) ?_
              refine S.nil ?_
              refine thenQ_n ?_
              refine AWp.prune (.eq (lk 0 rfl rfl) rfl (.eq (lk 3 rfl rfl) rfl (.eq (lk 12 rfl rfl) rfl (.eq (lk 13 rfl rfl) rfl .nil)))) ?_
              refine AWp.condM (lk 0 rfl rfl) h (fun c8 h => ?_) (fun c8 h => ?_)
              · skip
                refine W.reg [0] rfl ?_
                refine S.effN rfl rfl (.nf (H2 := [.tail, .cells ((V.int .i64) 2)]) (.storeP sz3 (lk 1 rfl rfl) cI rfl (.refl _) rfl .nil (by first | rfl | omega) .nil rfl rfl rfl) rfl rfl) trivial ?_
                refine S.nil ?_
                refine thenQ_n ?_
                refine AWp.seq ?_
                refine AWp.seq ?_
                refine W.reg [0, 1, 2] rfl ?_
                refine S.sil 64 rfl rfl (fun _ hF => .move (lk 2 rfl rfl)) ?_
                refine S.sil 65 rfl rfl (fun _ hF => .makeFunc rfl (mapE1 (lk 2 rfl rfl)) rfl rfl) ?_
                obtain ⟨r16, m16, h⟩ := h.bnd
                refine S.eff 66 rfl rfl (.nf (v2 := V.bool r16.1) (H2 := [.tail, .cells ((V.int .i64) r16.2)]) (.callH ent49 cF [1] (C_slices_ContainsFunc_Field_Fits_1 m16) (by decide) (.cons (lt_cells ((TyOk.int .i64).lt _ _)) rfl (RSub.trans (.refl _) (.eq ((TyOk.int .i64).cl _ _).symm)) .nil) (ltL_c (ty_S_TField.lt _ _) (ltL_c (lt_fn ltL_nil (ltL_c rfl ltL_nil)) ltL_nil)) (.c (lk 1 rfl rfl) (vsubr (vsub rfl (.forget _ _ _)) (ty_S_TField.lt _ _)) (.c (lk 0 rfl rfl) (subren (ren_fn rfl (renL_c rfl rfl))) .nil)) (TyOk.bool.cl _ _) (mapc (ren_cells ((TyOk.int .i64).cl _ _)) rfl) rfl) rfl rfl) trivial ?_
                refine S.nil ?_
                refine thenQ_n ?_
                refine AWp.condM (lk 0 rfl rfl) h (fun c9 h => ?_) (fun c9 h => ?_)
                · skip
                  refine AWp.seq ?_
                  refine W.reg [0] rfl ?_
                  refine S.sil 4 rfl rfl (fun _ hF => .assign cI) ?_
                  refine S.nil ?_
                  refine thenQ_n ?_
                  refine AWp.ret ?_
                  refine thenQ_r ?_
                  obtain rfl := h.ret
                  exact endF1 rfl (Wk.selS [] .nil rfl (SelE.leaf (lk 0 rfl rfl) rfl (.refl _) (fun m => ((TyOk.int .i64).lt _ _)) .nil) .nil) (.tmp (lk 0 rfl rfl) rfl) rfl rfl
                · skip
                  refine AWp.skip ?_
                  refine thenQ_n ?_
                  refine AWp.seq ?_
                  refine W.reg [0, 1] rfl ?_
                  refine S.eff 13 rfl rfl (.nf (v2 := .ptr 2 [] 0) (H2 := [.tail, .cells ((V.int .i64) r16.2), .cells (.nilfn)]) (.alloc zv82) rfl rfl) trivial ?_
                  refine S.effN rfl rfl (.nf (H2 := [.tail, .cells ((V.int .i64) r16.2), .cells (.fn 51 [] [])]) (.storeP sz82 (lk 0 rfl rfl) cF rfl (.refl _) rfl .nil (by first | rfl | omega) .nil rfl rfl rfl) rfl rfl) trivial ?_
                  refine S.nil ?_
                  refine thenQ_n ?_
                  refine AWp.wk (Wk.freeze 2 rfl rfl (.cons (lk 0 rfl rfl) rfl (.ptr .nil (by first | rfl | omega)) (.same (lk 6 rfl rfl) (.same (lk 7 rfl rfl) .nil))) (.refl _)) ?_
                  refine AWp.seq ?_
                  refine AWp.seq ?_
                  refine W.reg [0, 1, 2] rfl ?_
                  refine S.sil 67 rfl rfl (fun _ hF => .move (lk 1 rfl rfl)) ?_
                  refine S.sil 68 rfl rfl (fun _ hF => .makeFunc rfl (mapE1 (lk 1 rfl rfl)) rfl rfl) ?_
                  obtain ⟨r17, m17, h⟩ := h.bnd
                  refine S.sil 69 rfl rfl (fun _ hF => .callQ ent49 cF (.c (lk 1 rfl rfl) (vsub rfl (.forget _ _ _)) (.c (lk 0 rfl rfl) (V.sub.refl _) .nil)) (C_slices_ContainsFunc_Field_Fits_3_Fits_2 m17)) ?_
                  refine S.nil ?_
                  refine thenQ_n ?_
                  refine AWp.condM (lk 0 rfl rfl) h (fun c10 h => ?_) (fun c10 h => ?_)
                  · skip
                    refine AWp.seq ?_
                    refine W.reg [0] rfl ?_
                    refine S.sil 4 rfl rfl (fun _ hF => .assign cI) ?_
                    refine S.nil ?_
                    refine thenQ_n ?_
                    refine AWp.ret ?_
                    refine thenQ_r ?_
                    obtain rfl := h.ret
                    exact endF1 rfl (Wk.selS [] .nil rfl (SelE.leaf (lk 0 rfl rfl) rfl (.refl _) (fun m => ((TyOk.int .i64).lt _ _)) .nil) .nil) (.tmp (lk 0 rfl rfl) rfl) rfl rfl
                  · skip
                    refine AWp.skip ?_
                    refine thenQ_n ?_
                    refine AWp.seq ?_
                    refine W.reg [0] rfl ?_
                    refine S.sil 4 rfl rfl (fun _ hF => .assign cI) ?_
                    refine S.nil ?_
                    refine thenQ_n ?_
                    refine AWp.ret ?_
                    obtain rfl := h.ret
                    exact endF1 rfl (Wk.selS [] .nil rfl (SelE.leaf (lk 0 rfl rfl) rfl (.refl _) (fun m => ((TyOk.int .i64).lt _ _)) .nil) .nil) (.tmp (lk 0 rfl rfl) rfl) rfl rfl
              · skip
                refine AWp.skip ?_
                refine thenQ_n ?_
                refine AWp.seq ?_
                refine AWp.seq ?_
                refine W.reg [0, 1, 2] rfl ?_
                refine S.sil 64 rfl rfl (fun _ hF => .move (lk 2 rfl rfl)) ?_
                refine S.sil 65 rfl rfl (fun _ hF => .makeFunc rfl (mapE1 (lk 2 rfl rfl)) rfl rfl) ?_
                obtain ⟨r18, m18, h⟩ := h.bnd
                refine S.eff 66 rfl rfl (.nf (v2 := V.bool r18.1) (H2 := [.tail, .cells ((V.int .i64) r18.2)]) (.callH ent49 cF [1] (C_slices_ContainsFunc_Field_Fits_1 m18) (by decide) (.cons (lt_cells ((TyOk.int .i64).lt _ _)) rfl (RSub.trans (.refl _) (.eq ((TyOk.int .i64).cl _ _).symm)) .nil) (ltL_c (ty_S_TField.lt _ _) (ltL_c (lt_fn ltL_nil (ltL_c rfl ltL_nil)) ltL_nil)) (.c (lk 1 rfl rfl) (vsubr (vsub rfl (.forget _ _ _)) (ty_S_TField.lt _ _)) (.c (lk 0 rfl rfl) (subren (ren_fn rfl (renL_c rfl rfl))) .nil)) (TyOk.bool.cl _ _) (mapc (ren_cells ((TyOk.int .i64).cl _ _)) rfl) rfl) rfl rfl) trivial ?_
                refine S.nil ?_
                refine thenQ_n ?_
                refine AWp.condM (lk 0 rfl rfl) h (fun c11 h => ?_) (fun c11 h => ?_)
                · skip
                  refine AWp.seq ?_
                  refine W.reg [0] rfl ?_
                  refine S.sil 4 rfl rfl (fun _ hF => .assign cI) ?_
                  refine S.nil ?_
                  refine thenQ_n ?_
                  refine AWp.ret ?_
                  refine thenQ_r ?_
                  obtain rfl := h.ret
                  exact endF1 rfl (Wk.selS [] .nil rfl (SelE.leaf (lk 0 rfl rfl) rfl (.refl _) (fun m => ((TyOk.int .i64).lt _ _)) .nil) .nil) (.tmp (lk 0 rfl rfl) rfl) rfl rfl
                · skip
                  refine AWp.skip ?_
                  refine thenQ_n ?_
                  refine AWp.seq ?_
                  refine W.reg [0, 1] rfl ?_
                  refine S.eff 13 rfl rfl (.nf (v2 := .ptr 2 [] 0) (H2 := [.tail, .cells ((V.int .i64) r18.2), .cells (.nilfn)]) (.alloc zv82) rfl rfl) trivial ?_
                  refine S.effN rfl rfl (.nf (H2 := [.tail, .cells ((V.int .i64) r18.2), .cells (.fn 51 [] [])]) (.storeP sz82 (lk 0 rfl rfl) cF rfl (.refl _) rfl .nil (by first | rfl | omega) .nil rfl rfl rfl) rfl rfl) trivial ?_
                  refine S.nil ?_
                  refine thenQ_n ?_
                  refine AWp.wk (Wk.freeze 2 rfl rfl (.cons (lk 0 rfl rfl) rfl (.ptr .nil (by first | rfl | omega)) (.same (lk 6 rfl rfl) (.same (lk 7 rfl rfl) .nil))) (.refl _)) ?_
                  refine AWp.seq ?_
                  refine AWp.seq ?_
                  refine W.reg [0, 1, 2] rfl ?_
                  refine S.sil 67 rfl rfl (fun _ hF => .move (lk 1 rfl rfl)) ?_
                  refine S.sil 68 rfl rfl (fun _ hF => .makeFunc rfl (mapE1 (lk 1 rfl rfl)) rfl rfl) ?_
                  obtain ⟨r19, m19, h⟩ := h.bnd
                  refine S.sil 69 rfl rfl (fun _ hF => .callQ ent49 cF (.c (lk 1 rfl rfl) (vsub rfl (.forget _ _ _)) (.c (lk 0 rfl rfl) (V.sub.refl _) .nil)) (C_slices_ContainsFunc_Field_Fits_3_Fits_2 m19)) ?_
                  refine S.nil ?_
                  refine thenQ_n ?_
                  refine AWp.condM (lk 0 rfl rfl) h (fun c12 h => ?_) (fun c12 h => ?_)
                  · skip
                    refine AWp.seq ?_
                    refine W.reg [0] rfl ?_
                    refine S.sil 4 rfl rfl (fun _ hF => .assign cI) ?_
                    refine S.nil ?_
                    refine thenQ_n ?_
                    refine AWp.ret ?_
                    refine thenQ_r ?_
                    obtain rfl := h.ret
                    exact endF1 rfl (Wk.selS [] .nil rfl (SelE.leaf (lk 0 rfl rfl) rfl (.refl _) (fun m => ((TyOk.int .i64).lt _ _)) .nil) .nil) (.tmp (lk 0 rfl rfl) rfl) rfl rfl
                  · skip
                    refine AWp.skip ?_
                    refine thenQ_n ?_
                    refine AWp.seq ?_
                    refine W.reg [0] rfl ?_
                    refine S.sil 4 rfl rfl (fun _ hF => .assign cI) ?_
                    refine S.nil ?_
                    refine thenQ_n ?_
                    refine AWp.ret ?_
                    obtain rfl := h.ret
                    exact endF1 rfl (Wk.selS [] .nil rfl (SelE.leaf (lk 0 rfl rfl) rfl (.refl _) (fun m => ((TyOk.int .i64).lt _ _)) .nil) .nil) (.tmp (lk 0 rfl rfl) rfl) rfl rfl
        · skip
          refine AWp.skip ?_
          refine thenQ_n ?_
          refine AWp.seq ?_
          refine W.reg [0, 1] rfl ?_
          refine S.eff 12 rfl rfl (.nf (v2 := .ptr 1 [] 0) (H2 := [.tail, .cells ((V.int .i64) 0)]) (.alloc zv3) rfl rfl) trivial ?_
          refine S.effN rfl rfl (.nf (H2 := [.tail, .cells ((V.int .i64) 1)]) (.storeP sz3 (lk 0 rfl rfl) cI rfl (.refl _) rfl .nil (by first | rfl | omega) .nil rfl rfl rfl) rfl rfl) trivial ?_
          refine S.nil ?_
          refine thenQ_n ?_
          refine AWp.seq ?_
          refine AWp.seq ?_
          refine W.reg [0, 1, 2] rfl ?_
          refine S.sil 61 rfl rfl (fun _ hF => .fieldAddrC lay24 rfl rfl (lk 5 rfl rfl) rfl flL_nil) ?_
          refine S.sil 62 rfl rfl (fun _ hF => .loadC sz3 ag3 (lk 0 rfl rfl) rfl rfl) ?_
          refine S.sil 63 rfl rfl (fun _ hF => .eql (lk 0 rfl rfl) cI) ?_
          refine S.nil ?_
          refine thenQ_n ?_
          refine AWp.condM (lk 0 rfl rfl) h (fun c13 h => ?_) (fun c13 h => ?_)
          · skip
            refine W.reg [0] rfl ?_
            refine S.effN rfl rfl (.nf (H2 := [.tail, .cells ((V.int .i64) 2)]) (.storeP sz3 (lk 3 rfl rfl) cI rfl (.refl _) rfl .nil (by first | rfl | omega) .nil rfl rfl rfl) rfl rfl) trivial ?_
            refine S.nil ?_
            refine thenQ_n ?_
            refine AWp.seq ?_
            refine AWp.seq ?_
            refine W.reg [0, 1, 2] rfl ?_
            refine S.sil 64 rfl rfl (fun _ hF => .move (lk 6 rfl rfl)) ?_
            refine S.sil 65 rfl rfl (fun _ hF => .makeFunc rfl (mapE1 (lk 4 rfl rfl)) rfl rfl) ?_
            obtain ⟨r20, m20, h⟩ := h.bnd
            refine S.eff 66 rfl rfl (.nf (v2 := V.bool r20.1) (H2 := [.tail, .cells ((V.int .i64) r20.2)]) (.callH ent49 cF [1] (C_slices_ContainsFunc_Field_Fits_1 m20) (by decide) (.cons (lt_cells ((TyOk.int .i64).lt _ _)) rfl (RSub.trans (.refl _) (.eq ((TyOk.int .i64).cl _ _).symm)) .nil) (ltL_c (ty_S_TField.lt _ _) (ltL_c (lt_fn ltL_nil (ltL_c rfl ltL_nil)) ltL_nil)) (.c (lk 1 rfl rfl) (vsubr (vsub rfl (.forget _ _ _)) (ty_S_TField.lt _ _)) (.c (lk 0 rfl rfl) (subren (ren_fn rfl (renL_c rfl rfl))) .nil)) (TyOk.bool.cl _ _) (mapc (ren_cells ((TyOk.int .i64).cl _ _)) rfl) rfl) rfl rfl) trivial ?_
            refine S.nil ?_
            refine thenQ_n ?_
            refine AWp.prune (.eq (lk 0 rfl rfl) rfl (.eq (lk 9 rfl rfl) rfl (.eq (lk 10 rfl rfl) rfl .nil))) ?_
            refine AWp.condM (lk 0 rfl rfl) h (fun c14 h => ?_) (fun c14 h => ?_)
            · skip
              refine AWp.seq ?_
              refine W.reg [0] rfl ?_
              refine S.sil 4 rfl rfl (fun _ hF => .assign cI) ?_
              refine S.nil ?_
              refine thenQ_n ?_
              refine AWp.ret ?_
              refine thenQ_r ?_
              obtain rfl := h.ret
              exact endF1 rfl (Wk.selS [] .nil rfl (SelE.leaf (lk 0 rfl rfl) rfl (.refl _) (fun m => ((TyOk.int .i64).lt _ _)) .nil) .nil) (.tmp (lk 0 rfl rfl) rfl) rfl rfl
            · skip
              refine AWp.skip ?_
              refine thenQ_n ?_
              refine AWp.seq ?_
              refine W.reg [0, 1] rfl ?_
              refine S.eff 13 rfl rfl (.nf (v2 := .ptr 2 [] 0) (H2 := [.tail, .cells ((V.int .i64) r20.2), .cells (.nilfn)]) (.alloc zv82) rfl rfl) trivial ?_
              refine S.effN rfl rfl (.nf (H2 := [.tail, .cells ((V.int .i64) r20.2), .cells (.fn 51 [] [])]) (.storeP sz82 (lk 0 rfl rfl) cF rfl (.refl _) rfl .nil (by first | rfl | omega) .nil rfl rfl rfl) rfl rfl) trivial ?_
              refine S.nil ?_
              refine thenQ_n ?_
              refine AWp.wk (Wk.freeze 2 rfl rfl (.cons (lk 0 rfl rfl) rfl (.ptr .nil (by first | rfl | omega)) (.same (lk 2 rfl rfl) (.same (lk 3 rfl rfl) .nil))) (.refl _)) ?_
              refine AWp.seq ?_
              refine AWp.seq ?_
              refine W.reg [0, 1, 2] rfl ?_
              refine S.sil 67 rfl rfl (fun _ hF => .move (lk 1 rfl rfl)) ?_
              refine S.sil 68 rfl rfl (fun _ hF => .makeFunc rfl (mapE1 (lk 1 rfl rfl)) rfl rfl) ?_
              obtain ⟨r21, m21, h⟩ := h.bnd
              refine S.sil 69 rfl rfl (fun _ hF => .callQ ent49 cF (.c (lk 1 rfl rfl) (vsub rfl (.forget _ _ _)) (.c (lk 0 rfl rfl) (V.sub.refl _) .nil)) (C_slices_ContainsFunc_Field_Fits_3_Fits_2 m21)) ?_
              refine S.nil ?_
              refine thenQ_n ?_
              refine AWp.condM (lk 0 rfl rfl) h (fun c15 h => ?_) (fun c15 h => ?_)
              · skip
                refine AWp.seq ?_
                refine W.reg [0] rfl ?_
                refine S.sil 4 rfl rfl (fun _ hF => .assign cI) ?_
                refine S.nil ?_
                refine thenQ_n ?_
                refine AWp.ret ?_
                refine thenQ_r ?_
                obtain rfl := h.ret
                exact endF1 rfl (Wk.selS [] .nil rfl (SelE.leaf (lk 0 rfl rfl) rfl (.refl _) (fun m => ((TyOk.int .i64).lt _ _)) .nil) .nil) (.tmp (lk 0 rfl rfl) rfl) rfl rfl
              · skip
                refine AWp.skip ?_
                refine thenQ_n ?_
                refine AWp.seq ?_
                refine W.reg [0] rfl ?_
                refine S.sil 4 rfl rfl (fun _ hF => .assign cI) ?_
                refine S.nil ?_
                refine thenQ_n ?_
                refine AWp.ret ?_
                obtain rfl := h.ret
                exact endF1 rfl (Wk.selS [] .nil rfl (SelE.leaf (lk 0 rfl rfl) rfl (.refl _) (fun m => ((TyOk.int .i64).lt _ _)) .nil) .nil) (.tmp (lk 0 rfl rfl) rfl) rfl rfl
          · skip
            refine AWp.skip ?_
            refine thenQ_n ?_
            refine AWp.seq ?_
            refine AWp.seq ?_
            refine W.reg [0, 1, 2] rfl ?_
            refine S.sil 64 rfl rfl (fun _ hF => .move (lk 6 rfl rfl)) ?_
            refine S.sil 65 rfl rfl (fun _ hF => .makeFunc rfl (mapE1 (lk 4 rfl rfl)) rfl rfl) ?_
            obtain ⟨r22, m22, h⟩ := h.bnd
            refine S.eff 66 rfl rfl (.nf (v2 := V.bool r22.1) (H2 := [.tail, .cells ((V.int .i64) r22.2)]) (.callH ent49 cF [1] (C_slices_ContainsFunc_Field_Fits_1 m22) (by decide) (.cons (lt_cells ((TyOk.int .i64).lt _ _)) rfl (RSub.trans (.refl _) (.eq ((TyOk.int .i64).cl _ _).symm)) .nil) (ltL_c (ty_S_TField.lt _ _) (ltL_c (lt_fn ltL_nil (ltL_c rfl ltL_nil)) ltL_nil)) (.c (lk 1 rfl rfl) (vsubr (vsub rfl (.forget _ _ _)) (ty_S_TField.lt _ _)) (.c (lk 0 rfl rfl) (subren (ren_fn rfl (renL_c rfl rfl))) .nil)) (TyOk.bool.cl _ _) (mapc (ren_cells ((TyOk.int .i64).cl _ _)) rfl) rfl) rfl rfl) trivial ?_
            refine S.nil ?_
            refine thenQ_n ?_
            refine AWp.prune (.eq (lk 0 rfl rfl) rfl (.eq (lk 9 rfl rfl) rfl (.eq (lk 10 rfl rfl) rfl .nil))) ?_
            refine AWp.condM (lk 0 rfl rfl) h (fun c16 h => ?_) (fun c16 h => ?_)
            · skip
              refine AWp.seq ?_
              refine W.reg [0] rfl ?_
              refine S.sil 4 rfl rfl (fun _ hF => .assign cI) ?_
              refine S.nil ?_
              refine thenQ_n ?_
              refine AWp.ret ?_
              refine thenQ_r ?_
              obtain rfl := h.ret
              exact endF1 rfl (Wk.selS [] .nil rfl (SelE.leaf (lk 0 rfl rfl) rfl (.refl _) (fun m => ((TyOk.int .i64).lt _ _)) .nil) .nil) (.tmp (lk 0 rfl rfl) rfl) rfl rfl
            · skip
              refine AWp.skip ?_
              refine thenQ_n ?_
              refine AWp.seq ?_
              refine W.reg [0, 1] rfl ?_
              refine S.eff 13 rfl rfl (.nf (v2 := .ptr 2 [] 0) (H2 := [.tail, .cells ((V.int .i64) r22.2), .cells (.nilfn)]) (.alloc zv82) rfl rfl) trivial ?_
              refine S.effN rfl rfl (.nf (H2 := [.tail, .cells ((V.int .i64) r22.2), .cells (.fn 51 [] [])]) (.storeP sz82 (lk 0 rfl rfl) cF rfl (.refl _) rfl .nil (by first | rfl | omega) .nil rfl rfl rfl) rfl rfl) trivial ?_
              refine S.nil ?_
              refine thenQ_n ?_
              refine AWp.wk (Wk.freeze 2 rfl rfl (.cons (lk 0 rfl rfl) rfl (.ptr .nil (by first | rfl | omega)) (.same (lk 2 rfl rfl) (.same (lk 3 rfl rfl) .nil))) (.refl _)) ?_
              refine AWp.seq ?_
              refine AWp.seq ?_
              refine W.reg [0, 1, 2] rfl ?_
              refine S.sil 67 rfl rfl (fun _ hF => .move (lk 1 rfl rfl)) ?_
              refine S.sil 68 rfl rfl (fun _ hF => .makeFunc rfl (mapE1 (lk 1 rfl rfl)) rfl rfl) ?_
              obtain ⟨r23, m23, h⟩ := h.bnd
              refine S.sil 69 rfl rfl (fun _ hF => .callQ ent49 cF (.c (lk 1 rfl rfl) (vsub rfl (.forget _ _ _)) (.c (lk 0 rfl rfl) (V.sub.refl _) .nil)) (C_slices_ContainsFunc_Field_Fits_3_Fits_2 m23)) ?_
              refine S.nil ?_
              refine thenQ_n ?_
              refine AWp.condM (lk 0 rfl rfl) h (fun c17 h => ?_) (fun c17 h => ?_)
              · skip
                refine AWp.seq ?_
                refine W.reg [0] rfl ?_
                refine S.sil 4 rfl rfl (fun _ hF => .assign cI) ?_
                refine S.nil ?_
                refine thenQ_n ?_
                refine AWp.ret ?_
                refine thenQ_r ?_
                obtain rfl := h.ret
                exact endF1 rfl (Wk.selS [] .nil rfl (SelE.leaf (lk 0 rfl rfl) rfl (.refl _) (fun m => ((TyOk.int .i64).lt _ _)) .nil) .nil) (.tmp (lk 0 rfl rfl) rfl) rfl rfl
              · skip
                refine AWp.skip ?_
                refine thenQ_n ?_
                refine AWp.seq ?_
                refine W.reg [0] rfl ?_
                refine S.sil 4 rfl rfl (fun _ hF => .assign cI) ?_
                refine S.nil ?_
                refine thenQ_n ?_
                refine AWp.ret ?_
                obtain rfl := h.ret
                exact endF1 rfl (Wk.selS [] .nil rfl (SelE.leaf (lk 0 rfl rfl) rfl (.refl _) (fun m => ((TyOk.int .i64).lt _ _)) .nil) .nil) (.tmp (lk 0 rfl rfl) rfl) rfl rfl
theorem C_counter_Value {a1 : TCounter} {r : Int × Int} (h : counter_Value a1 = some r) : PureC Pg 61 [E_TCounter a1] (.tup [(V.int .i64) r.1, (V.int .i64) r.2]) := by
  refine PureC.ofF (CallSpec.of_bodyF 30 0 fn61 rfl rfl rfl (Nat.le_of_ble_eq_true rfl) ?_) (ltL_c (ty_TCounter.lt _ _) ltL_nil) (lt_tup (ltL_c ((TyOk.int .i64).lt _ _) (ltL_c ((TyOk.int .i64).lt _ _) ltL_nil)))
  replace h := Ok.of h
  unfold counter_Value at h
  refine AWp.seq ?_
  refine W.reg [0, 1, 2] rfl ?_
  refine S.eff 1 rfl rfl (.nf (v2 := .ptr 0 [] 0) (H2 := [.cells (E_TCounter a1)]) (.box (lk 0 rfl rfl) rfl) rfl rfl) trivial ?_
  refine S.sil 2 rfl rfl (fun _ hF => .assign cI) ?_
  refine S.sil 3 rfl rfl (fun _ hF => .assign cI) ?_
  refine S.nil ?_
  refine thenQ_n ?_
  refine AWp.wk (Wk.freeze 0 rfl rfl (.same (lk 0 rfl rfl) (.same (lk 1 rfl rfl) (.cons (lk 2 rfl rfl) rfl (.ptr .nil (by first | rfl | omega)) .nil))) (.refl _)) ?_
  refine AWp.seq ?_
  refine W.regD [0, 1, 2, 3, 4, 5, 6, 7] mixed ?_
  refine S.sil 7 rfl rfl (fun _ hF => .fieldAddrC lay38 rfl rfl (lk 2 rfl rfl) rfl flL_nil) ?_
  refine S.sil 8 rfl rfl (fun _ hF => .loadC sz3 ag3 (lk 0 rfl rfl) rfl rfl) ?_
  refine S.sil 9 rfl rfl (fun _ hF => .buildSliceW sli68 zv3 rfl rfl (by decide) (.cons (lk 0 rfl rfl) rfl (.refl _) rfl .nil)) ?_
  refine S.sil 10 rfl rfl (fun _ hF => .fieldAddrC lay38 rfl rfl (lk 5 rfl rfl) rfl (flL_c (show flen _ = 1 from rfl) (flL_c (show flen _ = 1 from rfl) (flL_c (show flen _ = 1 from rfl) (flL_c (ty_TRights.fl a1.Down) flL_nil))))) ?_
  refine S.sil 11 rfl rfl (fun _ hF => .fieldAddrC lay36 rfl rfl (lk 0 rfl rfl) rfl (flL_c (ty_A16_i64.fl a1.Up.Given) flL_nil)) ?_
  refine S.sil 12 rfl rfl (fun _ hF => .sliceArr arr33 (lk 0 rfl rfl) (by simp)) ?_
  obtain ⟨l2, m2, h⟩ := h.bnd
  refine S.new 13 rfl rfl (.appX sli68 und68 zv3 rfl (by decide) (lk 3 rfl rfl) (V.sub.refl _) (lk 0 rfl rfl) Rd.sl m2 rfl) trivial ?_
  refine S.sil 4 rfl rfl (fun _ hF => .assign (lk 0 rfl rfl)) ?_
  refine S.nilD (by kernel_rfl) ?_
  refine thenQ_n ?_
  refine AWp.seq ?_
  refine AWp.seq ?_
  refine W.reg [0, 1, 2, 3] rfl ?_
  refine S.sil 14 rfl rfl (fun _ hF => .fieldAddrC lay38 rfl rfl (lk 10 rfl rfl) rfl (flL_c (show flen _ = 1 from rfl) (flL_c (show flen _ = 1 from rfl) (flL_c (show flen _ = 1 from rfl) flL_nil)))) ?_
  refine S.sil 15 rfl rfl (fun _ hF => .fieldAddrC lay36 rfl rfl (lk 0 rfl rfl) rfl (flL_c (ty_A16_i64.fl a1.Down.Given) flL_nil)) ?_
  refine S.sil 16 rfl rfl (fun _ hF => .loadC sz33 ag33 (lk 0 rfl rfl) (ty_A16_i64.fl a1.Down.Used) rfl) ?_
  refine S.sil 17 rfl rfl (fun _ hF => .move cI) ?_
  refine S.nil ?_
  refine thenQ_n ?_
  refine AWp.prune (.eq (lk 0 rfl rfl) rfl (.eq (lk 1 rfl rfl) rfl (.eq (lk 4 rfl rfl) rfl (.eq (lk 12 rfl rfl) rfl (.eq (lk 13 rfl rfl) rfl .nil))))) ?_
  refine AWp.cutX (fun x5 => ⟨[(4, .sl 1 (.tok 0) (List.map (V.int .i64) x5)), (3, (V.int .i64) 0), (2, (V.int .i64) 0)], [.tail]⟩) nc_then h (fun q3 hq3 => ?_) (fun x5 h => ?_)
  · refine AWp.block ?_
    refine AWp.loopT (fun s4 => ⟨[(17, (V.int .i64) s4.1), (16, E_A16_i64 a1.Down.Used), (4, .sl 1 (.tok 0) (List.map (V.int .i64) s4.2)), (3, (V.int .i64) 0), (2, (V.int .i64) 0)], [.tail]⟩) hq3 (Wk.selS [1] (by decide) rfl (SelE.leaf (lk 0 rfl rfl) rfl (.refl _) (fun m => ((TyOk.int .i64).lt _ _)) (SelE.leaf (lk 1 rfl rfl) rfl (.refl _) (fun m => (ty_A16_i64.lt _ _)) (SelE.spec (lk 2 rfl rfl) rfl (.refl _) (ren_sl (TyOk.int .i64) _) (lt_sl rfl ((TyOk.int .i64).ltm _ _)) (SelE.leaf (lk 3 rfl rfl) rfl (.refl _) (fun m => ((TyOk.int .i64).lt _ _)) (SelE.leaf (lk 4 rfl rfl) rfl (.refl _) (fun m => ((TyOk.int .i64).lt _ _)) .nil))))) (.cons rfl rfl trivial .nil)) (fun _ s4 h3 => ?_)
    rw [counter_Value_L1] at h3
    refine AWp.seq ?_
    refine W.reg [0] rfl ?_
    refine S.sil 18 rfl rfl (fun _ hF => .lss (lk 0 rfl rfl) cI) ?_
    refine S.nil ?_
    refine thenQ_n ?_
    refine AWp.seq ?_
    refine AWp.condM (lk 0 rfl rfl) h3 (fun c1 h3 => ?_) (fun c1 h3 => ?_)
    · skip
      refine AWp.skip ?_
      refine thenQ_n ?_
      refine AWp.seq ?_
      refine AWp.block ?_
      refine AWp.seq ?_
      refine W.reg [0, 1] rfl ?_
      obtain ⟨k6, m6, h3⟩ := h3.bnd
      refine S.sil 19 rfl rfl (fun _ hF => .ixV arr33 (lk 2 rfl rfl) (lk 1 rfl rfl) m6 rfl) ?_
      refine S.sil 6 rfl rfl (fun _ hF => .assign (lk 0 rfl rfl)) ?_
      refine S.nil ?_
      refine thenQ_n ?_
      refine W.reg [0, 1, 2, 3, 4, 5] rfl ?_
      refine S.sil 20 rfl rfl (fun _ hF => .move (lk 5 rfl rfl)) ?_
      refine S.sil 21 rfl rfl (fun _ hF => .move (lk 1 rfl rfl)) ?_
      refine S.sil 22 rfl rfl (fun _ hF => .neg (lk 0 rfl rfl)) ?_
      refine S.sil 23 rfl rfl (fun _ hF => .buildSliceW sli68 zv3 rfl rfl (by decide) (.cons (lk 0 rfl rfl) rfl (.refl _) rfl .nil)) ?_
      obtain ⟨l7, m7, h3⟩ := h3.bnd
      refine S.eff 24 rfl rfl (.nf (v2 := .sl 1 (.tok 1) (List.map (V.int .i64) l7)) (H2 := [.dead, .tail]) (.appT sli68 und68 zv3 rfl (by decide) (lk 3 rfl rfl) rfl (lk 0 rfl rfl) Rd.sl m7 rfl) rfl rfl) trivial ?_
      refine S.sil 4 rfl rfl (fun _ hF => .assign (lk 0 rfl rfl)) ?_
      refine S.nil ?_
      refine blockQ_n ?_
      refine thenQ_n ?_
      refine W.reg [0, 1] rfl ?_
      refine S.sil 25 rfl rfl (fun _ hF => .add (lk 9 rfl rfl) cI) ?_
      refine S.sil 17 rfl rfl (fun _ hF => .move (lk 0 rfl rfl)) ?_
      refine S.nil ?_
      refine thenQ_n ?_
      exact ⟨_, h3.ret, (Wk.selS [1] (by decide) rfl (SelE.leaf (lk 0 rfl rfl) rfl (.refl _) (fun m => ((TyOk.int .i64).lt _ _)) (SelE.leaf (lk 12 rfl rfl) rfl (.refl _) (fun m => (ty_A16_i64.lt _ _)) (SelE.spec (lk 2 rfl rfl) rfl (.refl _) (ren_sl (TyOk.int .i64) _) (lt_sl rfl ((TyOk.int .i64).ltm _ _)) (SelE.leaf (lk 14 rfl rfl) rfl (.refl _) (fun m => ((TyOk.int .i64).lt _ _)) (SelE.leaf (lk 15 rfl rfl) rfl (.refl _) (fun m => ((TyOk.int .i64).lt _ _)) .nil))))) (.cons rfl rfl trivial .nil))⟩
    · skip
      refine AWp.exit ?_
      refine thenQ_x ?_
      refine thenQ_x ?_
      refine blockQ_x ?_
      refine thenQ_n ?_
      exact ⟨_, h3.ret, (Wk.selS [0] (by decide) rfl (SelE.spec (lk 3 rfl rfl) rfl (.refl _) (ren_sl (TyOk.int .i64) _) (lt_sl rfl ((TyOk.int .i64).ltm _ _)) (SelE.leaf (lk 4 rfl rfl) rfl (.refl _) (fun m => ((TyOk.int .i64).lt _ _)) (SelE.leaf (lk 5 rfl rfl) rfl (.refl _) (fun m => ((TyOk.int .i64).lt _ _)) .nil))) (.cons rfl rfl trivial .nil))⟩
  · skip
    refine thenQ_n ?_
    refine AWp.seq ?_
    refine W.reg [0, 1, 2, 3, 4, 5] rfl ?_
    refine S.sil 26 rfl rfl (fun _ hF => .move (lk 0 rfl rfl)) ?_
    obtain ⟨r8, m8, h⟩ := h.bnd
    refine S.sil 27 rfl rfl (fun _ hF => .callQ ent40 cF (.c (lk 0 rfl rfl) (vsub rfl (.forget _ _ _)) .nil) (C_num_Sum m8)) ?_
    refine S.sil 28 rfl rfl (fun _ hF => .extract (lk 0 rfl rfl) rfl) ?_
    refine S.sil 29 rfl rfl (fun _ hF => .extract (lk 1 rfl rfl) rfl) ?_
    refine S.sil 2 rfl rfl (fun _ hF => .assign (lk 1 rfl rfl)) ?_
    refine S.sil 3 rfl rfl (fun _ hF => .assign (lk 1 rfl rfl)) ?_
    refine S.nil ?_
    refine thenQ_n ?_
    refine AWp.ret ?_
    obtain rfl := h.ret
    exact endFN rfl (Wk.selS [] .nil rfl (SelE.leaf (lk 1 rfl rfl) rfl (.refl _) (fun m => ((TyOk.int .i64).lt _ _)) (SelE.leaf (lk 0 rfl rfl) rfl (.refl _) (fun m => ((TyOk.int .i64).lt _ _)) .nil)) .nil) (.cons (.tmp (lk 0 rfl rfl) rfl) (.cons (.tmp (lk 1 rfl rfl) rfl) .nil)) rfl rfl rfl
theorem C_field_View {a1 : TField} {r : Int × Int} (h : field_View a1 = some r) : PureC Pg 24 [E_TField a1] (.tup [(V.int .i64) r.1, (V.int .i64) r.2]) := by
  refine PureC.ofF (CallSpec.of_bodyF 18 0 fn24 rfl rfl rfl (Nat.le_of_ble_eq_true rfl) ?_) (ltL_c (ty_TField.lt _ _) ltL_nil) (lt_tup (ltL_c ((TyOk.int .i64).lt _ _) (ltL_c ((TyOk.int .i64).lt _ _) ltL_nil)))
  replace h := Ok.of h
  unfold field_View at h
  refine AWp.seq ?_
  refine W.reg [0, 1, 2] rfl ?_
  refine S.eff 1 rfl rfl (.nf (v2 := .ptr 0 [] 0) (H2 := [.cells (E_TField a1)]) (.box (lk 0 rfl rfl) rfl) rfl rfl) trivial ?_
  refine S.sil 2 rfl rfl (fun _ hF => .assign cI) ?_
  refine S.sil 3 rfl rfl (fun _ hF => .assign cI) ?_
  refine S.nil ?_
  refine thenQ_n ?_
  refine AWp.wk (Wk.freeze 0 rfl rfl (.same (lk 0 rfl rfl) (.same (lk 1 rfl rfl) (.cons (lk 2 rfl rfl) rfl (.ptr .nil (by first | rfl | omega)) .nil))) (.refl _)) ?_
  refine AWp.seq ?_
  refine AWp.seq ?_
  refine W.reg [0, 1] rfl ?_
  refine S.sil 4 rfl rfl (fun _ hF => .fieldAddrC lay43 rfl rfl (lk 2 rfl rfl) rfl (flL_c (show flen _ = 1 from rfl) flL_nil)) ?_
  refine S.sil 5 rfl rfl (fun _ hF => .loadC sz3 ag3 (lk 0 rfl rfl) rfl rfl) ?_
  refine S.nil ?_
  refine thenQ_n ?_
  refine AWp.block ?_
  refine AWp.seq ?_
  refine W.reg [0, 1] rfl ?_
  refine S.sil 7 rfl rfl (fun _ hF => .eql (lk 0 rfl rfl) cI) ?_
  refine S.sil 6 rfl rfl (fun _ hF => .assign (lk 0 rfl rfl)) ?_
  refine S.nil ?_
  refine thenQ_n ?_
  refine AWp.condM (lk 0 rfl rfl) h (fun c1 h => ?_) (fun c1 h => ?_)
  · skip
    refine AWp.seq ?_
    refine W.reg [0, 1, 2, 3, 4, 5, 6] rfl ?_
    refine S.sil 8 rfl rfl (fun _ hF => .fieldAddrC lay43 rfl rfl (lk 6 rfl rfl) rfl (flL_c (show flen _ = 1 from rfl) (flL_c (show flen _ = 1 from rfl) (flL_c (show flen _ = 1 from rfl) flL_nil)))) ?_
    refine S.sil 9 rfl rfl (fun _ hF => .loadC sz38 ag38 (lk 0 rfl rfl) (ty_TCounter.fl a1.Counter) rfl) ?_
    obtain ⟨r2, m2, h⟩ := h.bnd
    refine S.sil 10 rfl rfl (fun _ hF => .callQ ent61 cF (.c (lk 0 rfl rfl) (V.sub.refl _) .nil) (C_counter_Value m2)) ?_
    refine S.sil 11 rfl rfl (fun _ hF => .extract (lk 0 rfl rfl) rfl) ?_
    refine S.sil 12 rfl rfl (fun _ hF => .extract (lk 1 rfl rfl) rfl) ?_
    refine S.sil 2 rfl rfl (fun _ hF => .assign (lk 1 rfl rfl)) ?_
    refine S.sil 3 rfl rfl (fun _ hF => .assign (lk 1 rfl rfl)) ?_
    refine S.nil ?_
    refine thenQ_n ?_
    refine AWp.prune (.eq (lk 0 rfl rfl) rfl (.eq (lk 1 rfl rfl) rfl .nil)) ?_
    refine AWp.ret ?_
    refine blockQ_r ?_
    refine thenQ_r ?_
    obtain rfl := h.ret
    exact endFN rfl (Wk.selS [] .nil rfl (SelE.leaf (lk 1 rfl rfl) rfl (.refl _) (fun m => ((TyOk.int .i64).lt _ _)) (SelE.leaf (lk 0 rfl rfl) rfl (.refl _) (fun m => ((TyOk.int .i64).lt _ _)) .nil)) .nil) (.cons (.tmp (lk 0 rfl rfl) rfl) (.cons (.tmp (lk 1 rfl rfl) rfl) .nil)) rfl rfl rfl
  · skip
    refine AWp.seq ?_
    refine W.reg [0, 1] rfl ?_
    refine S.sil 14 rfl rfl (fun _ hF => .eql (lk 2 rfl rfl) cI) ?_
    refine S.sil 13 rfl rfl (fun _ hF => .assign (lk 0 rfl rfl)) ?_
    refine S.nil ?_
    refine thenQ_n ?_
    refine AWp.condM (lk 0 rfl rfl) h (fun c2 h => ?_) (fun c2 h => ?_)
    · skip
      refine AWp.seq ?_
      refine W.reg [0, 1, 2, 3, 4] rfl ?_
      refine S.sil 15 rfl rfl (fun _ hF => .fieldAddrC lay43 rfl rfl (lk 8 rfl rfl) rfl (flL_c (show flen _ = 1 from rfl) (flL_c (show flen _ = 1 from rfl) (flL_c (show flen _ = 1 from rfl) (flL_c (ty_TCounter.fl a1.Counter) flL_nil))))) ?_
      refine S.sil 16 rfl rfl (fun _ hF => .fieldAddrC lay40 rfl rfl (lk 0 rfl rfl) rfl (flL_c (show flen _ = 1 from rfl) (flL_c (show flen _ = 1 from rfl) (flL_c (show flen _ = 1 from rfl) flL_nil)))) ?_
      refine S.sil 17 rfl rfl (fun _ hF => .loadC sz3 ag3 (lk 0 rfl rfl) rfl rfl) ?_
      refine S.sil 2 rfl rfl (fun _ hF => .assign (lk 0 rfl rfl)) ?_
      refine S.sil 3 rfl rfl (fun _ hF => .assign cI) ?_
      refine S.nil ?_
      refine thenQ_n ?_
      refine AWp.prune (.eq (lk 0 rfl rfl) rfl (.eq (lk 1 rfl rfl) rfl .nil)) ?_
      refine AWp.ret ?_
      refine blockQ_r ?_
      refine thenQ_r ?_
      obtain rfl := h.ret
      exact endFN rfl (Wk.selS [] .nil rfl (SelE.leaf (lk 1 rfl rfl) rfl (.refl _) (fun m => ((TyOk.int .i64).lt _ _)) (SelE.leaf (lk 0 rfl rfl) rfl (.refl _) (fun m => ((TyOk.int .i64).lt _ _)) .nil)) .nil) (.cons (.tmp (lk 0 rfl rfl) rfl) (.cons (.tmp (lk 1 rfl rfl) rfl) .nil)) rfl rfl rfl
    · skip
      refine AWp.skip ?_
      refine blockQ_n ?_
      refine thenQ_n ?_
      refine AWp.seq ?_
      refine W.reg [0, 1] rfl ?_
      refine S.sil 2 rfl rfl (fun _ hF => .assign cI) ?_
      refine S.sil 3 rfl rfl (fun _ hF => .assign cI) ?_
      refine S.nil ?_
      refine thenQ_n ?_
      refine AWp.ret ?_
      obtain rfl := h.ret
      exact endFN rfl (Wk.selS [] .nil rfl (SelE.leaf (lk 1 rfl rfl) rfl (.refl _) (fun m => ((TyOk.int .i64).lt _ _)) (SelE.leaf (lk 0 rfl rfl) rfl (.refl _) (fun m => ((TyOk.int .i64).lt _ _)) .nil)) .nil) (.cons (.tmp (lk 0 rfl rfl) rfl) (.cons (.tmp (lk 1 rfl rfl) rfl) .nil)) rfl rfl rfl
theorem C_plan_made {a1 : ByteArray} {a2 : Int} {a3 : Int} {a4 : Int} {a5 : Int} {r : TField × Int} (h : plan_made a1 a2 a3 a4 a5 = some r) : PureC Pg 100 [V.str a1, (V.int .i64) a2, (V.int .i64) a3, (V.int .i64) a4, (V.int .i64) a5] (.tup [E_TField r.1, (V.int .i64) r.2]) := by
  refine PureC.ofF (CallSpec.of_bodyF 48 0 fn100 rfl rfl rfl (Nat.le_of_ble_eq_true rfl) ?_) (ltL_c (TyOk.str.lt _ _) (ltL_c ((TyOk.int .i64).lt _ _) (ltL_c ((TyOk.int .i64).lt _ _) (ltL_c ((TyOk.int .i64).lt _ _) (ltL_c ((TyOk.int .i64).lt _ _) ltL_nil))))) (lt_tup (ltL_c (ty_TField.lt _ _) (ltL_c ((TyOk.int .i64).lt _ _) ltL_nil)))
  replace h := Ok.of h
  unfold plan_made at h
  refine AWp.seq ?_
  refine W.reg [0, 1] rfl ?_
  refine S.eff 10 rfl rfl (.nf (v2 := .ptr 0 [] 0) (H2 := [.cells (.st [V.str (default : ByteArray), (V.int .i64) 0, (V.int .i64) 0, E_TCounter (default : TCounter), E_TLock (default : TLock), .nils])]) (.alloc zv43) rfl rfl) trivial ?_
  refine S.sil 11 rfl rfl (fun _ hF => .assign cI) ?_
  refine S.nil ?_
  refine thenQ_n ?_
  refine AWp.seq ?_
  refine AWp.seq ?_
  refine W.reg [0, 1, 2, 3, 4, 5, 6, 7, 8, 9] rfl ?_
  refine S.sil 16 rfl rfl (fun _ hF => .move (lk 3 rfl rfl)) ?_
  refine S.sil 17 rfl rfl (fun _ hF => .move (lk 5 rfl rfl)) ?_
  refine S.sil 18 rfl rfl (fun _ hF => .move (lk 7 rfl rfl)) ?_
  refine S.sil 19 rfl rfl (fun _ hF => .move (lk 9 rfl rfl)) ?_
  refine S.sil 20 rfl rfl (fun _ hF => .move (lk 10 rfl rfl)) ?_
  refine S.sil 21 rfl rfl (fun _ hF => .move (lk 10 rfl rfl)) ?_
  refine S.sil 22 rfl rfl (fun _ hF => .sub (lk 1 rfl rfl) (lk 0 rfl rfl)) ?_
  refine S.sil 23 rfl rfl (fun _ hF => .buildSliceW sli68 zv3 rfl rfl (by decide) (.cons (lk 6 rfl rfl) rfl (.refl _) rfl (.cons (lk 5 rfl rfl) rfl (.refl _) rfl (.cons (lk 4 rfl rfl) rfl (.refl _) rfl (.cons (lk 3 rfl rfl) rfl (.refl _) rfl (.cons (lk 0 rfl rfl) rfl (.refl _) rfl .nil)))))) ?_
  refine S.sil 24 rfl rfl (fun _ hF => .lenT (f := (V.int .i64)) (xs := [a2, a3, a4, a5, (wr .i64 (a5 - a4))]) sli68 (lk 0 rfl rfl) (vsub rfl (.forget _ _ _))) ?_
  refine S.sil 25 rfl rfl (fun _ hF => .move cI) ?_
  refine S.nil ?_
  refine thenQ_n ?_
  refine AWp.cutL (fun x8 => ⟨[(11, (V.int .i64) 0), (10, .ptr 0 [] 0), (0, V.str a1), (1, (V.int .i64) a2), (2, (V.int .i64) a3), (3, (V.int .i64) a4), (4, (V.int .i64) a5)], [.cells (E_TField (⟨(default : ByteArray), 0, 0, (default : TCounter), (default : TLock), ([] : List THold)⟩ : TField))]⟩) nc_then h (fun q6 hq6 h => ?_) (fun x8 h => ?_)
  · refine AWp.block ?_
    refine AWp.loopT (fun s7 => ⟨[(25, (V.int .i64) s7), (24, (V.int .i64) ([a2, a3, a4, a5, (wr .i64 (a5 - a4))].length : Int)), (23, .sl 1 .exact (List.map (V.int .i64) [a2, a3, a4, a5, (wr .i64 (a5 - a4))])), (11, (V.int .i64) 0), (10, .ptr 0 [] 0), (0, V.str a1), (1, (V.int .i64) a2), (2, (V.int .i64) a3), (3, (V.int .i64) a4), (4, (V.int .i64) a5)], [.cells (E_TField (⟨(default : ByteArray), 0, 0, (default : TCounter), (default : TLock), ([] : List THold)⟩ : TField))]⟩) hq6 (Wk.selS [0] (by decide) rfl (SelE.leaf (lk 0 rfl rfl) rfl (.refl _) (fun m => ((TyOk.int .i64).lt _ _)) (SelE.leaf (lk 1 rfl rfl) rfl (.refl _) (fun m => ((TyOk.int .i64).lt _ _)) (SelE.leaf (lk 2 rfl rfl) rfl (.refl _) (fun m => (lt_sl rfl ((TyOk.int .i64).ltm _ _))) (SelE.leaf (lk 10 rfl rfl) rfl (.refl _) (fun m => ((TyOk.int .i64).lt _ _)) (SelE.spec (lk 11 rfl rfl) rfl (.refl _) rfl rfl (SelE.leaf (lk 12 rfl rfl) rfl (.refl _) (fun m => (TyOk.str.lt _ _)) (SelE.leaf (lk 13 rfl rfl) rfl (.refl _) (fun m => ((TyOk.int .i64).lt _ _)) (SelE.leaf (lk 14 rfl rfl) rfl (.refl _) (fun m => ((TyOk.int .i64).lt _ _)) (SelE.leaf (lk 15 rfl rfl) rfl (.refl _) (fun m => ((TyOk.int .i64).lt _ _)) (SelE.leaf (lk 16 rfl rfl) rfl (.refl _) (fun m => ((TyOk.int .i64).lt _ _)) .nil)))))))))) (.cons (lt_cells (ty_TField.lt _ _)) rfl (RSub.trans (.st (.cons (.refl _) (.cons (.refl _) (.cons (.refl _) (.cons (.refl _) (.cons (.refl _) (.cons (.nils_no _) .nil))))))) (.eq (ty_TField.cl _ (⟨(default : ByteArray), 0, 0, (default : TCounter), (default : TLock), ([] : List THold)⟩ : TField)).symm)) .nil)) (fun _ s7 h6 => ?_)
    rw [plan_made_L1] at h6
    refine AWp.seq ?_
    refine W.reg [0] rfl ?_
    refine S.sil 26 rfl rfl (fun _ hF => .lss (lk 0 rfl rfl) (lk 1 rfl rfl)) ?_
    refine S.nil ?_
    refine thenQ_n ?_
    refine AWp.seq ?_
    refine AWp.condM (lk 0 rfl rfl) h6 (fun c1 h6 => ?_) (fun c1 h6 => ?_)
    · skip
      refine AWp.skip ?_
      refine thenQ_n ?_
      refine AWp.seq ?_
      refine AWp.block ?_
      refine AWp.seq ?_
      refine W.reg [0, 1, 2] rfl ?_
      obtain ⟨j9, m9, h6⟩ := h6.bnd
      refine S.sil 27 rfl rfl (fun _ hF => .ixS sli68 (lk 3 rfl rfl) (lk 1 rfl rfl) m9) ?_
      refine S.sil 28 rfl rfl (fun _ hF => .loadC sz3 ag3 (lk 0 rfl rfl) rfl rfl) ?_
      obtain ⟨v10, ev10, h6⟩ := h6.nam
      refine S.sil 13 rfl rfl (fun _ hF => .nv (.assign (lk 0 rfl rfl)) (congrArg (V.int .i64) ev10.symm)) ?_
      refine S.nil ?_
      refine thenQ_n ?_
      refine AWp.seq ?_
      refine W.reg [0, 1, 2] rfl ?_
      refine S.sil 29 rfl rfl (fun _ hF => .move (lk 0 rfl rfl)) ?_
      obtain ⟨r11, m11, h6⟩ := h6.bnd
      refine S.sil 30 rfl rfl (fun _ hF => .callQ ent46 cF (.c (lk 0 rfl rfl) (V.sub.refl _) .nil) (C_num_Is m11)) ?_
      refine S.sil 31 rfl rfl (fun _ hF => .not (lk 0 rfl rfl)) ?_
      refine S.nil ?_
      refine thenQ_n ?_
      refine AWp.condM (lk 0 rfl rfl) h6 (fun c2 h6 => ?_) (fun c2 h6 => ?_)
      · skip
        refine AWp.seq ?_
        refine W.reg [0, 1, 2] rfl ?_
        obtain ⟨v12, ev12, h6⟩ := h6.nam
        refine S.sil 32 rfl rfl (fun _ hF => .nv (.vs (v := .st [V.str (default : ByteArray), (V.int .i64) 0, (V.int .i64) 0, E_TCounter (default : TCounter), E_TLock (default : TLock), .nils]) (v2 := E_TField (⟨(default : ByteArray), 0, 0, (default : TCounter), (default : TLock), ([] : List THold)⟩ : TField)) (.buildStW lay43 zv43 rfl .nil) rfl (.st (.cons (.refl _) (.cons (.refl _) (.cons (.refl _) (.cons (.refl _) (.cons (.refl _) (.cons (.nils_no _) .nil)))))))) (congrArg E_TField ev12.symm)) ?_
        refine S.effN rfl rfl (.nf (H2 := [.cells (E_TField v12)]) (.storeP sz43 (lk 12 rfl rfl) (lk 0 rfl rfl) rfl (.refl _) rfl .nil (by first | rfl | omega) .nil (ty_TField.fl v12) (ty_TField.fl (⟨(default : ByteArray), 0, 0, (default : TCounter), (default : TLock), ([] : List THold)⟩ : TField)) rfl) rfl rfl) trivial ?_
        refine S.sil 11 rfl rfl (fun _ hF => .assign cI) ?_
        refine S.nil ?_
        refine thenQ_n ?_
        refine AWp.ret ?_
        refine blockQ_r ?_
        refine thenQ_r ?_
        refine thenQ_r ?_
        refine blockQ_r ?_
        refine thenQ_r ?_
        refine thenQ_r ?_
        have h := Ok.inrq h h6.ret
        refine endF_wk (Wk.freeze 0 rfl rfl (.same (lk 0 rfl rfl) (.same (lk 0 rfl rfl) (.cons (lk 13 rfl rfl) rfl (.ptr .nil (by first | rfl | omega)) .nil))) (.refl _)) ?_
        obtain rfl := h.ret
        exact endFN rfl (Wk.selS [] .nil rfl (SelE.leaf (lk 2 rfl rfl) rfl (.refl _) (fun m => (lt_cptr (ty_TField.lt _ _))) (SelE.leaf (lk 0 rfl rfl) rfl (.refl _) (fun m => ((TyOk.int .i64).lt _ _)) .nil)) .nil) (.cons (.cellC sz43 ag43 (lk 0 rfl rfl) (ty_TField.fl _) rfl) (.cons (.tmp (lk 1 rfl rfl) rfl) .nil)) rfl rfl rfl
      · skip
        refine AWp.skip ?_
        refine blockQ_n ?_
        refine thenQ_n ?_
        refine W.reg [0, 1] rfl ?_
        refine S.sil 33 rfl rfl (fun _ hF => .add (lk 7 rfl rfl) cI) ?_
        refine S.sil 25 rfl rfl (fun _ hF => .move (lk 0 rfl rfl)) ?_
        refine S.nil ?_
        refine thenQ_n ?_
        exact ⟨_, h6.ret, (Wk.selS [0] (by decide) rfl (SelE.leaf (lk 0 rfl rfl) rfl (.refl _) (fun m => ((TyOk.int .i64).lt _ _)) (SelE.leaf (lk 10 rfl rfl) rfl (.refl _) (fun m => ((TyOk.int .i64).lt _ _)) (SelE.leaf (lk 11 rfl rfl) rfl (.refl _) (fun m => (lt_sl rfl ((TyOk.int .i64).ltm _ _))) (SelE.leaf (lk 12 rfl rfl) rfl (.refl _) (fun m => ((TyOk.int .i64).lt _ _)) (SelE.spec (lk 13 rfl rfl) rfl (.refl _) rfl rfl (SelE.leaf (lk 14 rfl rfl) rfl (.refl _) (fun m => (TyOk.str.lt _ _)) (SelE.leaf (lk 15 rfl rfl) rfl (.refl _) (fun m => ((TyOk.int .i64).lt _ _)) (SelE.leaf (lk 16 rfl rfl) rfl (.refl _) (fun m => ((TyOk.int .i64).lt _ _)) (SelE.leaf (lk 17 rfl rfl) rfl (.refl _) (fun m => ((TyOk.int .i64).lt _ _)) (SelE.leaf (lk 18 rfl rfl) rfl (.refl _) (fun m => ((TyOk.int .i64).lt _ _)) .nil)))))))))) (.cons (lt_cells (ty_TField.lt _ _)) rfl (RSub.trans (.refl _) (.eq (ty_TField.cl _ (⟨(default : ByteArray), 0, 0, (default : TCounter), (default : TLock), ([] : List THold)⟩ : TField)).symm)) .nil))⟩
    · skip
      refine AWp.exit ?_
      refine thenQ_x ?_
      refine thenQ_x ?_
      refine blockQ_x ?_
      refine thenQ_n ?_
      exact ⟨_, h6.ret, (Wk.selS [0] (by decide) rfl (SelE.leaf (lk 4 rfl rfl) rfl (.refl _) (fun m => ((TyOk.int .i64).lt _ _)) (SelE.spec (lk 5 rfl rfl) rfl (.refl _) rfl rfl (SelE.leaf (lk 6 rfl rfl) rfl (.refl _) (fun m => (TyOk.str.lt _ _)) (SelE.leaf (lk 7 rfl rfl) rfl (.refl _) (fun m => ((TyOk.int .i64).lt _ _)) (SelE.leaf (lk 8 rfl rfl) rfl (.refl _) (fun m => ((TyOk.int .i64).lt _ _)) (SelE.leaf (lk 9 rfl rfl) rfl (.refl _) (fun m => ((TyOk.int .i64).lt _ _)) (SelE.leaf (lk 10 rfl rfl) rfl (.refl _) (fun m => ((TyOk.int .i64).lt _ _)) .nil))))))) (.cons (lt_cells (ty_TField.lt _ _)) rfl (RSub.trans (.refl _) (.eq (ty_TField.cl _ (⟨(default : ByteArray), 0, 0, (default : TCounter), (default : TLock), ([] : List THold)⟩ : TField)).symm)) .nil))⟩
  · skip
    refine thenQ_n ?_
    refine AWp.seq ?_
    refine W.reg [0, 1, 2, 3, 4, 5, 6, 7, 8, 9] rfl ?_
    refine S.sil 35 rfl rfl (fun _ hF => .move (lk 4 rfl rfl)) ?_
    refine S.sil 36 rfl rfl (fun _ hF => .move (lk 6 rfl rfl)) ?_
    refine S.sil 37 rfl rfl (fun _ hF => .move (lk 8 rfl rfl)) ?_
    obtain ⟨r13, m13, h⟩ := h.bnd
    refine S.sil 38 rfl rfl (fun _ hF => .callQ ent85 cF (.c (lk 2 rfl rfl) (V.sub.refl _) (.c (lk 1 rfl rfl) (V.sub.refl _) (.c (lk 0 rfl rfl) (V.sub.refl _) .nil))) (C_counter_New m13)) ?_
    refine S.sil 34 rfl rfl (fun _ hF => .move (lk 0 rfl rfl)) ?_
    refine S.sil 39 rfl rfl (fun _ hF => .extract (lk 0 rfl rfl) rfl) ?_
    refine S.sil 40 rfl rfl (fun _ hF => .extract (lk 1 rfl rfl) rfl) ?_
    refine S.eff 14 rfl rfl (.nf (v2 := .ptr 1 [] 0) (H2 := [.cells (E_TField (⟨(default : ByteArray), 0, 0, (default : TCounter), (default : TLock), ([] : List THold)⟩ : TField)), .cells (E_TCounter (default : TCounter))]) (.alloc zv38) rfl rfl) trivial ?_
    refine S.effN rfl rfl (.nf (H2 := [.cells (E_TField (⟨(default : ByteArray), 0, 0, (default : TCounter), (default : TLock), ([] : List THold)⟩ : TField)), .cells (E_TCounter r13.1)]) (.storeP sz38 (lk 0 rfl rfl) (lk 2 rfl rfl) rfl (.refl _) rfl .nil (by first | rfl | omega) .nil (ty_TCounter.fl r13.1) (ty_TCounter.fl (default : TCounter)) rfl) rfl rfl) trivial ?_
    refine S.sil 15 rfl rfl (fun _ hF => .assign (lk 1 rfl rfl)) ?_
    refine S.nil ?_
    refine thenQ_n ?_
    refine AWp.wk (Wk.freeze 1 rfl rfl (.same (lk 0 rfl rfl) (.cons (lk 1 rfl rfl) rfl (.ptr .nil (by first | rfl | omega)) (.same (lk 9 rfl rfl) (.same (lk 10 rfl rfl) (.same (lk 11 rfl rfl) (.same (lk 12 rfl rfl) .nil)))))) (.refl _)) ?_
    refine AWp.seq ?_
    refine AWp.seq ?_
    refine W.reg [0, 1] rfl ?_
    refine S.sil 41 rfl rfl (fun _ hF => .move (lk 0 rfl rfl)) ?_
    refine S.sil 42 rfl rfl (fun _ hF => .neq (lk 0 rfl rfl) cI) ?_
    refine S.nil ?_
    refine thenQ_n ?_
    refine AWp.condM (lk 0 rfl rfl) h (fun c3 h => ?_) (fun c3 h => ?_)
    · skip
      refine AWp.seq ?_
      refine W.reg [0, 1, 2] rfl ?_
      obtain ⟨v14, ev14, h⟩ := h.nam
      refine S.sil 43 rfl rfl (fun _ hF => .nv (.vs (v := .st [V.str (default : ByteArray), (V.int .i64) 0, (V.int .i64) 0, E_TCounter (default : TCounter), E_TLock (default : TLock), .nils]) (v2 := E_TField (⟨(default : ByteArray), 0, 0, (default : TCounter), (default : TLock), ([] : List THold)⟩ : TField)) (.buildStW lay43 zv43 rfl .nil) rfl (.st (.cons (.refl _) (.cons (.refl _) (.cons (.refl _) (.cons (.refl _) (.cons (.refl _) (.cons (.nils_no _) .nil)))))))) (congrArg E_TField ev14.symm)) ?_
      refine S.effN rfl rfl (.nf (H2 := [.cells (E_TField v14), .dead]) (.storeP sz43 (lk 6 rfl rfl) (lk 0 rfl rfl) rfl (.refl _) rfl .nil (by first | rfl | omega) .nil (ty_TField.fl v14) (ty_TField.fl (⟨(default : ByteArray), 0, 0, (default : TCounter), (default : TLock), ([] : List THold)⟩ : TField)) rfl) rfl rfl) trivial ?_
      refine S.sil 11 rfl rfl (fun _ hF => .assign cI) ?_
      refine S.nil ?_
      refine thenQ_n ?_
      refine AWp.ret ?_
      refine thenQ_r ?_
      refine endF_wk (Wk.freeze 0 rfl rfl (.same (lk 0 rfl rfl) (.same (lk 0 rfl rfl) (.cons (lk 7 rfl rfl) rfl (.ptr .nil (by first | rfl | omega)) .nil))) (.refl _)) ?_
      obtain rfl := h.ret
      exact endFN rfl (Wk.selS [] .nil rfl (SelE.leaf (lk 2 rfl rfl) rfl (.refl _) (fun m => (lt_cptr (ty_TField.lt _ _))) (SelE.leaf (lk 0 rfl rfl) rfl (.refl _) (fun m => ((TyOk.int .i64).lt _ _)) .nil)) .nil) (.cons (.cellC sz43 ag43 (lk 0 rfl rfl) (ty_TField.fl _) rfl) (.cons (.tmp (lk 1 rfl rfl) rfl) .nil)) rfl rfl rfl
    · skip
      refine AWp.skip ?_
      refine thenQ_n ?_
      refine AWp.seq ?_
      refine W.reg [0, 1, 2, 3, 4, 5] rfl ?_
      refine S.sil 44 rfl rfl (fun _ hF => .move (lk 6 rfl rfl)) ?_
      refine S.sil 45 rfl rfl (fun _ hF => .move (lk 8 rfl rfl)) ?_
      refine S.sil 46 rfl rfl (fun _ hF => .loadC sz38 ag38 (lk 5 rfl rfl) (ty_TCounter.fl r13.1) rfl) ?_
      obtain ⟨v15, ev15, h⟩ := h.nam
      refine S.sil 47 rfl rfl (fun _ hF => .nv (.vs (v := .st [V.str a1, (V.int .i64) 1, (V.int .i64) a2, E_TCounter r13.1, E_TLock (default : TLock), .nils]) (v2 := E_TField (⟨a1, 1, a2, r13.1, (default : TLock), ([] : List THold)⟩ : TField)) (.buildStW lay43 zv43 rfl (.cons (lk 2 rfl rfl) rfl rfl rfl rfl (.cons cI rfl rfl rfl rfl (.cons (lk 1 rfl rfl) rfl rfl rfl rfl (.cons (lk 0 rfl rfl) rfl rfl (ty_TCounter.fl r13.1) rfl .nil))))) rfl (.st (.cons (.refl _) (.cons (.refl _) (.cons (.refl _) (.cons (.refl _) (.cons (.refl _) (.cons (.nils_no _) .nil)))))))) (congrArg E_TField ev15.symm)) ?_
      refine S.effN rfl rfl (.nf (H2 := [.cells (E_TField v15), .dead]) (.storeP sz43 (lk 9 rfl rfl) (lk 0 rfl rfl) rfl (.refl _) rfl .nil (by first | rfl | omega) .nil (ty_TField.fl v15) (ty_TField.fl (⟨(default : ByteArray), 0, 0, (default : TCounter), (default : TLock), ([] : List THold)⟩ : TField)) rfl) rfl rfl) trivial ?_
      refine S.sil 11 rfl rfl (fun _ hF => .assign cI) ?_
      refine S.nil ?_
      refine thenQ_n ?_
      refine AWp.prune (.eq (lk 0 rfl rfl) rfl (.eq (lk 10 rfl rfl) rfl .nil)) ?_
      refine AWp.ret ?_
      refine endF_wk (Wk.freeze 0 rfl rfl (.same (lk 0 rfl rfl) (.cons (lk 1 rfl rfl) rfl (.ptr .nil (by first | rfl | omega)) .nil)) (.refl _)) ?_
      obtain rfl := h.ret
      exact endFN rfl (Wk.selS [] .nil rfl (SelE.leaf (lk 1 rfl rfl) rfl (.refl _) (fun m => (lt_cptr (ty_TField.lt _ _))) (SelE.leaf (lk 0 rfl rfl) rfl (.refl _) (fun m => ((TyOk.int .i64).lt _ _)) .nil)) .nil) (.cons (.cellC sz43 ag43 (lk 0 rfl rfl) (ty_TField.fl _) rfl) (.cons (.tmp (lk 1 rfl rfl) rfl) .nil)) rfl rfl rfl
theorem C_plan_change_1_own {a1 : Int} {a2 : Int} {a3 : Int} {a4 : TField} {b5 : Int} {r : (List TField) × Int × Int} (h : plan_change_1_own a1 a2 a3 a4 b5 = some r) : CallSpec Pg 99 [(V.int .i64) a1, (V.int .i64) a2, (V.int .i64) a3, .cptr (E_TField a4), .ptr 0 [] 0] [.cells ((V.int .i64) b5)] fun o H' => o = .ret (.tup [.slo 587 1 [] 0 0 r.1.length 1, (V.int .i64) r.2.1]) ∧ H' = [.cells ((V.int .i64) r.2.2), .buf 587 (List.map E_TField r.1)] := by
  refine CallSpec.of_bodyF 25 1 fn99 rfl rfl rfl (Nat.le_of_ble_eq_true rfl) ?_
  replace h := Ok.of h
  unfold plan_change_1_own at h
  refine AWp.seq ?_
  refine W.reg [0, 1] rfl ?_
  refine S.sil 8 rfl rfl (fun _ hF => .assign cNs) ?_
  refine S.sil 9 rfl rfl (fun _ hF => .assign cI) ?_
  refine S.nil ?_
  refine thenQ_n ?_
  refine AWp.seq ?_
  refine W.reg [0, 1, 2, 3, 4, 5, 6, 7, 8, 9, 10, 11, 12] rfl ?_
  refine S.sil 13 rfl rfl (fun _ hF => .fieldAddrC lay43 rfl rfl (lk 5 rfl rfl) rfl flL_nil) ?_
  refine S.sil 14 rfl rfl (fun _ hF => .loadC sz9 ag9 (lk 0 rfl rfl) rfl rfl) ?_
  refine S.qui 15 rfl rfl (fun _ => .loadP sz3 ag3 (lk 8 rfl rfl) rfl .nil (by first | rfl | omega) rfl rfl) ?_
  refine S.sil 16 rfl rfl (fun _ hF => .move (lk 5 rfl rfl)) ?_
  refine S.sil 17 rfl rfl (fun _ hF => .move (lk 7 rfl rfl)) ?_
  refine S.sil 18 rfl rfl (fun _ hF => .move (lk 9 rfl rfl)) ?_
  obtain ⟨r6, m6, h⟩ := h.bnd
  refine S.sil 19 rfl rfl (fun _ hF => .callQ ent100 cF (.c (lk 4 rfl rfl) (V.sub.refl _) (.c (lk 3 rfl rfl) (V.sub.refl _) (.c (lk 2 rfl rfl) (V.sub.refl _) (.c (lk 1 rfl rfl) (V.sub.refl _) (.c (lk 0 rfl rfl) (V.sub.refl _) .nil))))) (C_plan_made m6)) ?_
  refine S.sil 12 rfl rfl (fun _ hF => .move (lk 0 rfl rfl)) ?_
  refine S.sil 20 rfl rfl (fun _ hF => .extract (lk 0 rfl rfl) rfl) ?_
  refine S.sil 21 rfl rfl (fun _ hF => .extract (lk 1 rfl rfl) rfl) ?_
  refine S.eff 10 rfl rfl (.nf (v2 := .ptr 1 [] 0) (H2 := [.cells ((V.int .i64) b5), .cells (.st [V.str (default : ByteArray), (V.int .i64) 0, (V.int .i64) 0, E_TCounter (default : TCounter), E_TLock (default : TLock), .nils])]) (.alloc zv43) rfl rfl) trivial ?_
  refine S.effN rfl rfl (.nf (H2 := [.cells ((V.int .i64) b5), .cells (E_TField r6.1)]) (.storeP sz43 (lk 0 rfl rfl) (lk 2 rfl rfl) rfl (.refl _) rfl .nil (by first | rfl | omega) .nil (ty_TField.fl r6.1) (fl_st (flL_c (show flen _ = 1 from rfl) (flL_c (show flen _ = 1 from rfl) (flL_c (show flen _ = 1 from rfl) (flL_c (ty_TCounter.fl (default : TCounter)) (flL_c (ty_TLock.fl (default : TLock)) (flL_c (show flen _ = 1 from rfl) flL_nil))))))) rfl) rfl rfl) trivial ?_
  refine S.sil 11 rfl rfl (fun _ hF => .assign (lk 1 rfl rfl)) ?_
  refine S.nil ?_
  refine thenQ_n ?_
  refine AWp.wk (Wk.freeze 1 rfl rfl (.same (lk 0 rfl rfl) (.cons (lk 1 rfl rfl) rfl (.ptr .nil (by first | rfl | omega)) (.same (lk 12 rfl rfl) (.same (lk 13 rfl rfl) .nil)))) (.refl _)) ?_
  refine AWp.seq ?_
  refine W.reg [0, 1, 2, 3, 4] rfl ?_
  refine S.sil 22 rfl rfl (fun _ hF => .loadC sz43 ag43 (lk 1 rfl rfl) (ty_TField.fl r6.1) rfl) ?_
  obtain ⟨v7, ev7, h⟩ := h.nam
  refine S.eff 23 rfl rfl (.nf (v2 := .slo 587 2 [] 0 0 1 1) (H2 := [.cells ((V.int .i64) b5), .dead, .buf 587 (List.map E_TField v7)]) (.buildOwn (vs := List.map E_TField [r6.1]) sli22 zv43 rfl rfl (by decide) (.cons (lk 0 rfl rfl) rfl (.refl _) (ty_TField.fl r6.1) .nil) (congrArg (fun z => ([.cells ((V.int .i64) b5), .dead, AObj.buf 587 (List.map E_TField z)] : List AObj)) ev7.symm)) rfl rfl) trivial ?_
  refine S.sil 24 rfl rfl (fun _ hF => .move (lk 2 rfl rfl)) ?_
  refine S.sil 8 rfl rfl (fun _ hF => .assign (lk 1 rfl rfl)) ?_
  refine S.sil 9 rfl rfl (fun _ hF => .assign (lk 1 rfl rfl)) ?_
  refine S.nil ?_
  refine thenQ_n ?_
  refine AWp.ret ?_
  obtain rfl := h.ret
  exact endFN rfl (Wk.selS [0, 2] (by decide) rfl (SelE.spec (v := .slo 587 1 [] 0 0 v7.length 1) (lk 1 rfl rfl) rfl (.slo (by first | rfl | simp [ev7])) rfl rfl (SelE.leaf (lk 0 rfl rfl) rfl (.refl _) (fun m => ((TyOk.int .i64).lt _ _)) .nil)) (.cons (lt_cells ((TyOk.int .i64).lt _ _)) rfl (RSub.trans (.refl _) (.eq ((TyOk.int .i64).cl _ _).symm)) (.cons (lt_buf (xs := v7) ty_TField) rfl ⟨rfl, RSubL.leafr ty_TField _ rfl⟩ .nil))) (.cons (.tmp (lk 0 rfl rfl) rfl) (.cons (.tmp (lk 1 rfl rfl) rfl) .nil)) rfl rfl rfl
theorem C_lock_New {a1 : Int} {a2 : Int} {r : TLock × Int} (h : lock_New a1 a2 = some r) : PureC Pg 101 [(V.int .i64) a1, (V.int .i64) a2] (.tup [E_TLock r.1, (V.int .i64) r.2]) := by
  refine PureC.ofF (CallSpec.of_bodyF 19 0 fn101 rfl rfl rfl (Nat.le_of_ble_eq_true rfl) ?_) (ltL_c ((TyOk.int .i64).lt _ _) (ltL_c ((TyOk.int .i64).lt _ _) ltL_nil)) (lt_tup (ltL_c (ty_TLock.lt _ _) (ltL_c ((TyOk.int .i64).lt _ _) ltL_nil)))
  replace h := Ok.of h
  unfold lock_New at h
  refine AWp.seq ?_
  refine W.reg [0, 1] rfl ?_
  refine S.eff 4 rfl rfl (.nf (v2 := .ptr 0 [] 0) (H2 := [.cells (E_TLock (default : TLock))]) (.alloc zv40) rfl rfl) trivial ?_
  refine S.sil 5 rfl rfl (fun _ hF => .assign cI) ?_
  refine S.nil ?_
  refine thenQ_n ?_
  refine AWp.seq ?_
  refine AWp.block ?_
  refine AWp.seq ?_
  refine W.reg [0, 1, 2, 3] rfl ?_
  refine S.sil 7 rfl rfl (fun _ hF => .move (lk 2 rfl rfl)) ?_
  obtain ⟨r3, m3, h⟩ := h.bnd
  refine S.sil 8 rfl rfl (fun _ hF => .callQ ent116 cF (.c (lk 0 rfl rfl) (V.sub.refl _) .nil) (C_lock_is m3)) ?_
  refine S.sil 9 rfl rfl (fun _ hF => .not (lk 0 rfl rfl)) ?_
  refine S.sil 6 rfl rfl (fun _ hF => .assign (lk 0 rfl rfl)) ?_
  refine S.nil ?_
  refine thenQ_n ?_
  refine AWp.condM (lk 0 rfl rfl) h (fun c1 h => ?_) (fun c1 h => ?_)
  · skip
    refine AWp.seq ?_
    refine W.reg [0, 1, 2] rfl ?_
    refine S.sil 10 rfl rfl (fun _ hF => .nv (v2 := E_TLock (⟨0, 0, 0, 0⟩ : TLock)) (.buildStW lay40 zv40 rfl .nil) rfl) ?_
    obtain ⟨v4, ev4, h⟩ := h.nam
    refine S.effN rfl rfl (.nf (H2 := [.cells (E_TLock v4)]) (.storeP sz40 (lk 6 rfl rfl) (lk 0 rfl rfl) rfl (.refl _) rfl .nil (by first | rfl | omega) .nil (ty_TLock.fl (⟨0, 0, 0, 0⟩ : TLock)) (ty_TLock.fl (default : TLock)) (congrArg (fun z => ([AObj.cells (E_TLock z)] : List AObj)) ev4.symm)) rfl rfl) trivial ?_
    refine S.sil 5 rfl rfl (fun _ hF => .assign cI) ?_
    refine S.nil ?_
    refine thenQ_n ?_
    refine AWp.ret ?_
    refine blockQ_r ?_
    refine thenQ_r ?_
    refine endF_wk (Wk.freeze 0 rfl rfl (.same (lk 0 rfl rfl) (.same (lk 0 rfl rfl) (.cons (lk 7 rfl rfl) rfl (.ptr .nil (by first | rfl | omega)) .nil))) (.refl _)) ?_
    obtain rfl := h.ret
    exact endFN rfl (Wk.selS [] .nil rfl (SelE.leaf (lk 2 rfl rfl) rfl (.refl _) (fun m => (lt_cptr (ty_TLock.lt _ _))) (SelE.leaf (lk 0 rfl rfl) rfl (.refl _) (fun m => ((TyOk.int .i64).lt _ _)) .nil)) .nil) (.cons (.cellC sz40 ag40 (lk 0 rfl rfl) (ty_TLock.fl _) rfl) (.cons (.tmp (lk 1 rfl rfl) rfl) .nil)) rfl rfl rfl
  · skip
    refine AWp.seq ?_
    refine W.reg [0, 1, 2, 3] rfl ?_
    refine S.sil 12 rfl rfl (fun _ hF => .move (lk 7 rfl rfl)) ?_
    obtain ⟨r5, m5, h⟩ := h.bnd
    refine S.sil 13 rfl rfl (fun _ hF => .callQ ent46 cF (.c (lk 0 rfl rfl) (V.sub.refl _) .nil) (C_num_Is m5)) ?_
    refine S.sil 14 rfl rfl (fun _ hF => .not (lk 0 rfl rfl)) ?_
    refine S.sil 11 rfl rfl (fun _ hF => .assign (lk 0 rfl rfl)) ?_
    refine S.nil ?_
    refine thenQ_n ?_
    refine AWp.condM (lk 0 rfl rfl) h (fun c2 h => ?_) (fun c2 h => ?_)
    · skip
      refine AWp.seq ?_
      refine W.reg [0, 1, 2] rfl ?_
      refine S.sil 15 rfl rfl (fun _ hF => .nv (v2 := E_TLock (⟨0, 0, 0, 0⟩ : TLock)) (.buildStW lay40 zv40 rfl .nil) rfl) ?_
      obtain ⟨v6, ev6, h⟩ := h.nam
      refine S.effN rfl rfl (.nf (H2 := [.cells (E_TLock v6)]) (.storeP sz40 (lk 10 rfl rfl) (lk 0 rfl rfl) rfl (.refl _) rfl .nil (by first | rfl | omega) .nil (ty_TLock.fl (⟨0, 0, 0, 0⟩ : TLock)) (ty_TLock.fl (default : TLock)) (congrArg (fun z => ([AObj.cells (E_TLock z)] : List AObj)) ev6.symm)) rfl rfl) trivial ?_
      refine S.sil 5 rfl rfl (fun _ hF => .assign cI) ?_
      refine S.nil ?_
      refine thenQ_n ?_
      refine AWp.prune (.eq (lk 0 rfl rfl) rfl (.eq (lk 11 rfl rfl) rfl (.eq (lk 12 rfl rfl) rfl (.eq (lk 13 rfl rfl) rfl .nil)))) ?_
      refine AWp.ret ?_
      refine blockQ_r ?_
      refine thenQ_r ?_
      refine endF_wk (Wk.freeze 0 rfl rfl (.same (lk 0 rfl rfl) (.cons (lk 1 rfl rfl) rfl (.ptr .nil (by first | rfl | omega)) .nil)) (.refl _)) ?_
      obtain rfl := h.ret
      exact endFN rfl (Wk.selS [] .nil rfl (SelE.leaf (lk 1 rfl rfl) rfl (.refl _) (fun m => (lt_cptr (ty_TLock.lt _ _))) (SelE.leaf (lk 0 rfl rfl) rfl (.refl _) (fun m => ((TyOk.int .i64).lt _ _)) .nil)) .nil) (.cons (.cellC sz40 ag40 (lk 0 rfl rfl) (ty_TLock.fl _) rfl) (.cons (.tmp (lk 1 rfl rfl) rfl) .nil)) rfl rfl rfl
    · skip
      refine AWp.skip ?_
      refine blockQ_n ?_
      refine thenQ_n ?_
      refine AWp.seq ?_
      refine W.reg [0, 1, 2, 3, 4] rfl ?_
      refine S.sil 16 rfl rfl (fun _ hF => .move (lk 10 rfl rfl)) ?_
      refine S.sil 17 rfl rfl (fun _ hF => .move (lk 12 rfl rfl)) ?_
      refine S.sil 18 rfl rfl (fun _ hF => .nv (v2 := E_TLock (⟨0, 0, a1, a2⟩ : TLock)) (.buildStW lay40 zv40 rfl (.cons (lk 1 rfl rfl) rfl rfl rfl rfl (.cons (lk 0 rfl rfl) rfl rfl rfl rfl .nil))) rfl) ?_
      obtain ⟨v7, ev7, h⟩ := h.nam
      refine S.effN rfl rfl (.nf (H2 := [.cells (E_TLock v7)]) (.storeP sz40 (lk 12 rfl rfl) (lk 0 rfl rfl) rfl (.refl _) rfl .nil (by first | rfl | omega) .nil (ty_TLock.fl (⟨0, 0, a1, a2⟩ : TLock)) (ty_TLock.fl (default : TLock)) (congrArg (fun z => ([AObj.cells (E_TLock z)] : List AObj)) ev7.symm)) rfl rfl) trivial ?_
      refine S.sil 5 rfl rfl (fun _ hF => .assign cI) ?_
      refine S.nil ?_
      refine thenQ_n ?_
      refine AWp.prune (.eq (lk 0 rfl rfl) rfl (.eq (lk 13 rfl rfl) rfl .nil)) ?_
      refine AWp.ret ?_
      refine endF_wk (Wk.freeze 0 rfl rfl (.same (lk 0 rfl rfl) (.cons (lk 1 rfl rfl) rfl (.ptr .nil (by first | rfl | omega)) .nil)) (.refl _)) ?_
      obtain rfl := h.ret
      exact endFN rfl (Wk.selS [] .nil rfl (SelE.leaf (lk 1 rfl rfl) rfl (.refl _) (fun m => (lt_cptr (ty_TLock.lt _ _))) (SelE.leaf (lk 0 rfl rfl) rfl (.refl _) (fun m => ((TyOk.int .i64).lt _ _)) .nil)) .nil) (.cons (.cellC sz40 ag40 (lk 0 rfl rfl) (ty_TLock.fl _) rfl) (.cons (.tmp (lk 1 rfl rfl) rfl) .nil)) rfl rfl rfl
theorem C_plan_change_own {a1 : TField} {a2 : TField} {a3 : TPlan} {r : (List TField) × Int} (h : plan_change_own a1 a2 a3 = some r) : CallSpec Pg 56 [E_TField a1, E_TField a2, E_TPlan a3] [] fun o H' => o = .ret (.tup [.slo 587 0 [] 0 0 r.1.length 1, (V.int .i64) r.2]) ∧ H' = [.buf 587 (List.map E_TField r.1)] := by
  refine CallSpec.of_bodyF 178 0 fn56 rfl rfl rfl (Nat.le_of_ble_eq_true rfl) ?_
  replace h := Ok.of h
  unfold plan_change_own at h
  refine AWp.seq ?_
  refine W.reg [0, 1, 2, 3, 4] rfl ?_
  refine S.eff 3 rfl rfl (.nf (v2 := .ptr 0 [] 0) (H2 := [.cells (E_TField a1)]) (.box (lk 0 rfl rfl) rfl) rfl rfl) trivial ?_
  refine S.eff 4 rfl rfl (.nf (v2 := .ptr 1 [] 0) (H2 := [.cells (E_TField a1), .cells (E_TField a2)]) (.box (lk 2 rfl rfl) rfl) rfl rfl) trivial ?_
  refine S.eff 5 rfl rfl (.nf (v2 := .ptr 2 [] 0) (H2 := [.cells (E_TField a1), .cells (E_TField a2), .cells (E_TPlan a3)]) (.box (lk 4 rfl rfl) rfl) rfl rfl) trivial ?_
  refine S.sil 6 rfl rfl (fun _ hF => .assign cNs) ?_
  refine S.sil 7 rfl rfl (fun _ hF => .assign cI) ?_
  refine S.nil ?_
  refine thenQ_n ?_
  refine AWp.wk (Wk.freeze 0 rfl rfl (.same (lk 0 rfl rfl) (.same (lk 1 rfl rfl) (.same (lk 2 rfl rfl) (.same (lk 3 rfl rfl) (.cons (lk 4 rfl rfl) rfl (.ptr .nil (by first | rfl | omega)) .nil))))) (.refl _)) ?_
  refine AWp.wk (Wk.freeze 1 rfl rfl (.same (lk 0 rfl rfl) (.same (lk 1 rfl rfl) (.same (lk 2 rfl rfl) (.cons (lk 3 rfl rfl) rfl (.ptr .nil (by first | rfl | omega)) (.same (lk 4 rfl rfl) .nil))))) (.refl _)) ?_
  refine AWp.wk (Wk.freeze 2 rfl rfl (.same (lk 0 rfl rfl) (.same (lk 1 rfl rfl) (.cons (lk 2 rfl rfl) rfl (.ptr .nil (by first | rfl | omega)) (.same (lk 3 rfl rfl) (.same (lk 4 rfl rfl) .nil))))) (.refl _)) ?_
  refine AWp.seq ?_
  refine W.reg [0, 1, 2, 3, 4, 5, 6] rfl ?_
  refine S.sil 22 rfl rfl (fun _ hF => .loadC sz43 ag43 (lk 4 rfl rfl) (ty_TField.fl a1) rfl) ?_
  obtain ⟨r4, m4, h⟩ := h.bnd
  refine S.sil 23 rfl rfl (fun _ hF => .callQ ent24 cF (.c (lk 0 rfl rfl) (V.sub.refl _) .nil) (C_field_View m4)) ?_
  refine S.sil 21 rfl rfl (fun _ hF => .move (lk 0 rfl rfl)) ?_
  refine S.sil 24 rfl rfl (fun _ hF => .extract (lk 0 rfl rfl) rfl) ?_
  refine S.sil 25 rfl rfl (fun _ hF => .extract (lk 1 rfl rfl) rfl) ?_
  refine S.sil 8 rfl rfl (fun _ hF => .assign (lk 1 rfl rfl)) ?_
  refine S.sil 9 rfl rfl (fun _ hF => .assign (lk 1 rfl rfl)) ?_
  refine S.nil ?_
  refine thenQ_n ?_
  refine AWp.seq ?_
  refine W.reg [0, 1, 2, 3, 4, 5, 6] rfl ?_
  refine S.sil 27 rfl rfl (fun _ hF => .loadC sz43 ag43 (lk 10 rfl rfl) (ty_TField.fl a2) rfl) ?_
  obtain ⟨r5, m5, h⟩ := h.bnd
  refine S.sil 28 rfl rfl (fun _ hF => .callQ ent24 cF (.c (lk 0 rfl rfl) (V.sub.refl _) .nil) (C_field_View m5)) ?_
  refine S.sil 26 rfl rfl (fun _ hF => .move (lk 0 rfl rfl)) ?_
  refine S.sil 29 rfl rfl (fun _ hF => .extract (lk 0 rfl rfl) rfl) ?_
  refine S.sil 30 rfl rfl (fun _ hF => .extract (lk 1 rfl rfl) rfl) ?_
  refine S.sil 10 rfl rfl (fun _ hF => .assign (lk 1 rfl rfl)) ?_
  refine S.sil 11 rfl rfl (fun _ hF => .assign (lk 1 rfl rfl)) ?_
  refine S.nil ?_
  refine thenQ_n ?_
  refine AWp.prune (.eq (lk 0 rfl rfl) rfl (.eq (lk 1 rfl rfl) rfl (.eq (lk 7 rfl rfl) rfl (.eq (lk 8 rfl rfl) rfl (.eq (lk 14 rfl rfl) rfl (.eq (lk 15 rfl rfl) rfl (.eq (lk 16 rfl rfl) rfl (.eq (lk 17 rfl rfl) rfl (.eq (lk 18 rfl rfl) rfl .nil))))))))) ?_
  refine AWp.seq ?_
  refine AWp.seq ?_
  refine W.reg [0, 1, 2, 3, 4, 5, 6, 7, 8, 9, 10] rfl ?_
  refine S.sil 31 rfl rfl (fun _ hF => .move (lk 2 rfl rfl)) ?_
  refine S.sil 32 rfl rfl (fun _ hF => .neq (lk 0 rfl rfl) cI) ?_
  refine S.sil 33 rfl rfl (fun _ hF => .move (lk 0 rfl rfl)) ?_
  refine S.gsil 34 2 33 false rfl rfl rfl (lk 0 rfl rfl) (fun hB _ hF => .move (lk 3 rfl rfl)) ?_
  refine S.gsil 35 2 33 false rfl rfl rfl (lk 1 rfl rfl) (fun hB _ hF => .neq (ifT hB (lk 0 rfl rfl)) cI) ?_
  refine S.gsil 36 2 33 false rfl rfl rfl (lk 2 rfl rfl) (fun hB _ hF => .move (ifT hB (lk 0 rfl rfl))) ?_
  refine S.gsil2 37 5 36 true rfl rfl rfl (lk 0 rfl rfl) (fun hB _ hF => .fieldAddrC lay24 rfl rfl (lk 12 rfl rfl) rfl flL_nil) ?_
  refine S.gsil2 38 5 36 true rfl rfl rfl (lk 1 rfl rfl) (fun hB _ hF => .loadC sz3 ag3 (ifT hB (lk 0 rfl rfl)) rfl rfl) ?_
  refine S.gsil2 39 5 36 true rfl rfl rfl (lk 2 rfl rfl) (fun hB _ hF => .eql (ifT hB (lk 0 rfl rfl)) cI) ?_
  refine S.gsil 40 2 33 false rfl rfl rfl (lk 6 rfl rfl) (fun hB _ hF => .pickAnd (ifT hB (lk 3 rfl rfl)) (fun h => ifT ⟨hB, h⟩ (lk 0 rfl rfl)) cB) ?_
  obtain ⟨v6, ev6, h⟩ := h.nam
  refine S.sil 41 rfl rfl (fun _ hF => .nv (.pickOr (lk 7 rfl rfl) cB (fun h => ifT h (lk 0 rfl rfl))) (congrArg V.bool ev6.symm)) ?_
  refine S.nil ?_
  refine thenQ_n ?_
  refine AWp.prune (.eq (lk 0 rfl rfl) rfl (.eq (lk 12 rfl rfl) rfl (.eq (lk 13 rfl rfl) rfl (.eq (lk 14 rfl rfl) rfl (.eq (lk 15 rfl rfl) rfl (.eq (lk 16 rfl rfl) rfl (.eq (lk 17 rfl rfl) rfl (.eq (lk 18 rfl rfl) rfl (.eq (lk 19 rfl rfl) rfl .nil))))))))) ?_
  refine AWp.condM (lk 0 rfl rfl) h (fun c1 h => ?_) (fun c1 h => ?_)
  · skip
    refine AWp.seq ?_
    refine W.reg [0, 1] rfl ?_
    refine S.sil 6 rfl rfl (fun _ hF => .assign cNs) ?_
    refine S.sil 7 rfl rfl (fun _ hF => .assign cI) ?_
    refine S.nil ?_
    refine thenQ_n ?_
    refine AWp.ret ?_
    refine thenQ_r ?_
    refine endF_wk (Wk.nilbuf 587 (lk 1 rfl rfl)) ?_
    obtain rfl := h.ret
    exact endFN rfl (Wk.selS [3] (by decide) rfl (SelE.spec (v := .slo 587 0 [] 0 0 ([] : List TField).length 1) (lk 0 rfl rfl) rfl (.slo (by first | rfl | simp)) rfl rfl (SelE.leaf (lk 1 rfl rfl) rfl (.refl _) (fun m => ((TyOk.int .i64).lt _ _)) .nil)) (.cons rfl rfl (ASub.refl _) .nil)) (.cons (.tmp (lk 0 rfl rfl) rfl) (.cons (.tmp (lk 1 rfl rfl) rfl) .nil)) rfl rfl rfl
  · skip
    refine AWp.skip ?_
    refine thenQ_n ?_
    refine AWp.seq ?_
    refine W.regD [0, 1, 2, 3, 4, 5, 6, 7, 8, 9, 10, 11, 12] mixed ?_
    refine S.sil 42 rfl rfl (fun _ hF => .fieldAddrC lay43 rfl rfl (lk 8 rfl rfl) rfl (flL_c (show flen _ = 1 from rfl) (flL_c (show flen _ = 1 from rfl) (flL_c (show flen _ = 1 from rfl) flL_nil)))) ?_
    refine S.sil 43 rfl rfl (fun _ hF => .fieldAddrC lay38 rfl rfl (lk 0 rfl rfl) rfl (flL_c (show flen _ = 1 from rfl) flL_nil)) ?_
    refine S.sil 44 rfl rfl (fun _ hF => .loadC sz3 ag3 (lk 0 rfl rfl) rfl rfl) ?_
    refine S.sil 45 rfl rfl (fun _ hF => .fieldAddrC lay43 rfl rfl (lk 11 rfl rfl) rfl (flL_c (show flen _ = 1 from rfl) (flL_c (show flen _ = 1 from rfl) (flL_c (show flen _ = 1 from rfl) flL_nil)))) ?_
    refine S.sil 46 rfl rfl (fun _ hF => .fieldAddrC lay38 rfl rfl (lk 0 rfl rfl) rfl (flL_c (show flen _ = 1 from rfl) (flL_c (show flen _ = 1 from rfl) flL_nil))) ?_
    refine S.sil 47 rfl rfl (fun _ hF => .loadC sz3 ag3 (lk 0 rfl rfl) rfl rfl) ?_
    refine S.sil 48 rfl rfl (fun _ hF => .fieldAddrC lay43 rfl rfl (lk 14 rfl rfl) rfl (flL_c (show flen _ = 1 from rfl) (flL_c (show flen _ = 1 from rfl) flL_nil))) ?_
    refine S.sil 49 rfl rfl (fun _ hF => .loadC sz3 ag3 (lk 0 rfl rfl) rfl rfl) ?_
    refine S.sil 50 rfl rfl (fun _ hF => .add (lk 0 rfl rfl) cI) ?_
    refine S.new 14 rfl rfl (.alloc zv3) trivial ?_
    refine S.sil 12 rfl rfl (fun _ hF => .assign (lk 7 rfl rfl)) ?_
    refine S.sil 13 rfl rfl (fun _ hF => .assign (lk 5 rfl rfl)) ?_
    obtain ⟨v7, ev7, h⟩ := h.nam
    refine S.effN rfl rfl (.storeP sz3 (lk 2 rfl rfl) (lk 3 rfl rfl) rfl (.refl _) rfl .nil (by first | rfl | omega) .nil rfl rfl (congrArg (fun z => ([.dead, .dead, .dead, AObj.cells ((V.int .i64) z)] : List AObj)) ev7.symm)) trivial ?_
    refine S.nilD (by kernel_rfl) ?_
    refine thenQ_n ?_
    refine AWp.prune (.eq (lk 0 rfl rfl) rfl (.eq (lk 1 rfl rfl) rfl (.eq (lk 2 rfl rfl) rfl (.eq (lk 13 rfl rfl) rfl (.eq (lk 14 rfl rfl) rfl (.eq (lk 15 rfl rfl) rfl (.eq (lk 16 rfl rfl) rfl (.eq (lk 17 rfl rfl) rfl (.eq (lk 18 rfl rfl) rfl (.eq (lk 19 rfl rfl) rfl (.eq (lk 20 rfl rfl) rfl .nil))))))))))) ?_
    refine AWp.seq ?_
    refine W.reg [0, 1] rfl ?_
    refine S.sil 51 rfl rfl (fun _ hF => .makeFunc rfl (mapE2 (lk 10 rfl rfl) (lk 2 rfl rfl)) rfl rfl) ?_
    refine S.sil 15 rfl rfl (fun _ hF => .assign (lk 0 rfl rfl)) ?_
    refine S.nil ?_
    refine thenQ_n ?_
    refine AWp.seq ?_
    refine AWp.seq ?_
    refine W.reg [0, 1] rfl ?_
    refine S.sil 52 rfl rfl (fun _ hF => .fieldAddrC lay24 rfl rfl (lk 10 rfl rfl) rfl flL_nil) ?_
    refine S.sil 53 rfl rfl (fun _ hF => .loadC sz3 ag3 (lk 0 rfl rfl) rfl rfl) ?_
    refine S.nil ?_
    refine thenQ_n ?_
    refine AWp.block ?_
    refine AWp.seq ?_
    refine W.reg [0, 1] rfl ?_
    refine S.sil 55 rfl rfl (fun _ hF => .eql (lk 0 rfl rfl) cI) ?_
    refine S.sil 54 rfl rfl (fun _ hF => .assign (lk 0 rfl rfl)) ?_
    refine S.nil ?_
    refine thenQ_n ?_
    refine AWp.condM (lk 0 rfl rfl) h (fun c2 h => ?_) (fun c2 h => ?_)
    · skip
      refine AWp.seq ?_
      refine W.reg [0, 1, 2, 3, 4, 5, 6, 7, 8, 9, 10, 11, 12, 13, 14] rfl ?_
      refine S.sil 56 rfl rfl (fun _ hF => .move (lk 4 rfl rfl)) ?_
      refine S.sil 57 rfl rfl (fun _ hF => .move (lk 12 rfl rfl)) ?_
      refine S.sil 58 rfl rfl (fun _ hF => .move (lk 9 rfl rfl)) ?_
      refine S.sil 59 rfl rfl (fun _ hF => .fieldAddrC lay24 rfl rfl (lk 17 rfl rfl) rfl (flL_c (show flen _ = 1 from rfl) (flL_c (show flen _ = 1 from rfl) (flL_c (show flen _ = 1 from rfl) flL_nil)))) ?_
      refine S.sil 60 rfl rfl (fun _ hF => .loadC sz3 ag3 (lk 0 rfl rfl) rfl rfl) ?_
      refine S.sil 61 rfl rfl (fun _ hF => .add (lk 2 rfl rfl) (lk 0 rfl rfl)) ?_
      refine S.sil 62 rfl rfl (fun _ hF => .move (lk 12 rfl rfl)) ?_
      refine S.sil 63 rfl rfl (fun _ hF => .fieldAddrC lay24 rfl rfl (lk 21 rfl rfl) rfl (flL_c (show flen _ = 1 from rfl) (flL_c (show flen _ = 1 from rfl) (flL_c (show flen _ = 1 from rfl) (flL_c (show flen _ = 1 from rfl) flL_nil))))) ?_
      refine S.sil 64 rfl rfl (fun _ hF => .loadC sz3 ag3 (lk 0 rfl rfl) rfl rfl) ?_
      refine S.sil 65 rfl rfl (fun _ hF => .sub (lk 2 rfl rfl) (lk 0 rfl rfl)) ?_
      obtain ⟨r8, m8, h⟩ := h.bnd
      refine S.eff 66 rfl rfl (.nf (v2 := .tup [.slo 587 4 [] 0 0 r8.1.length 1, (V.int .i64) r8.2.1]) (H2 := [.dead, .dead, .dead, .cells ((V.int .i64) r8.2.2), .buf 587 (List.map E_TField r8.1)]) (.callH ent99 (lk 9 rfl rfl) [3] (C_plan_change_1_own m8) (by decide) (.cons (lt_cells ((TyOk.int .i64).lt _ _)) rfl (RSub.trans (.refl _) (.eq ((TyOk.int .i64).cl _ _).symm)) .nil) (ltL_c ((TyOk.int .i64).lt _ _) (ltL_c ((TyOk.int .i64).lt _ _) (ltL_c ((TyOk.int .i64).lt _ _) (ltL_c (lt_cptr (ty_TField.lt _ _)) (ltL_c rfl ltL_nil))))) (.c (lk 8 rfl rfl) (vsubr (V.sub.refl _) ((TyOk.int .i64).lt _ _)) (.c (lk 4 rfl rfl) (vsubr (V.sub.refl _) ((TyOk.int .i64).lt _ _)) (.c (lk 0 rfl rfl) (vsubr (V.sub.refl _) ((TyOk.int .i64).lt _ _)) (.cons (vsubr (V.sub.refl _) (lt_cptr (ty_TField.lt _ _))) (.cons (subren rfl) .nil))))) (ren_tup (renL_c rfl (renL_c ((TyOk.int .i64).cl _ _) rfl))) (mapc (ren_cells ((TyOk.int .i64).cl _ _)) (mapc (ren_buf ty_TField _) rfl)) rfl) rfl rfl) trivial ?_
      refine S.sil 67 rfl rfl (fun _ hF => .extract (lk 0 rfl rfl) rfl) ?_
      refine S.sil 68 rfl rfl (fun _ hF => .extract (lk 1 rfl rfl) rfl) ?_
      refine S.sil 6 rfl rfl (fun _ hF => .assign (lk 1 rfl rfl)) ?_
      refine S.sil 7 rfl rfl (fun _ hF => .assign (lk 1 rfl rfl)) ?_
      refine S.nil ?_
      refine thenQ_n ?_
      refine AWp.prune (.eq (lk 0 rfl rfl) rfl (.eq (lk 1 rfl rfl) rfl (.eq (lk 23 rfl rfl) rfl (.eq (lk 25 rfl rfl) rfl (.eq (lk 26 rfl rfl) rfl (.eq (lk 31 rfl rfl) rfl .nil)))))) ?_
      refine AWp.ret ?_
      refine blockQ_r ?_
      refine thenQ_r ?_
      obtain rfl := h.ret
      exact endFN rfl (Wk.selS [4] (by decide) rfl (SelE.spec (v := .slo 587 0 [] 0 0 r8.1.length 1) (lk 1 rfl rfl) rfl (.slo (by first | rfl | simp)) rfl rfl (SelE.leaf (lk 0 rfl rfl) rfl (.refl _) (fun m => ((TyOk.int .i64).lt _ _)) .nil)) (.cons (lt_buf (xs := r8.1) ty_TField) rfl ⟨rfl, RSubL.leafr ty_TField _ rfl⟩ .nil)) (.cons (.tmp (lk 0 rfl rfl) rfl) (.cons (.tmp (lk 1 rfl rfl) rfl) .nil)) rfl rfl rfl
    · skip
      refine AWp.seq ?_
      refine W.reg [0, 1] rfl ?_
      refine S.sil 70 rfl rfl (fun _ hF => .eql (lk 2 rfl rfl) cI) ?_
      refine S.sil 69 rfl rfl (fun _ hF => .assign (lk 0 rfl rfl)) ?_
      refine S.nil ?_
      refine thenQ_n ?_
      refine AWp.condM (lk 0 rfl rfl) h (fun c3 h => ?_) (fun c3 h => ?_)
      · skip
        refine AWp.seq ?_
        refine W.reg [0, 1, 2, 3, 4, 5, 6, 7, 8, 9, 10, 11, 12, 13, 14] rfl ?_
        refine S.sil 71 rfl rfl (fun _ hF => .move (lk 6 rfl rfl)) ?_
        refine S.sil 72 rfl rfl (fun _ hF => .move (lk 14 rfl rfl)) ?_
        refine S.sil 73 rfl rfl (fun _ hF => .move (lk 11 rfl rfl)) ?_
        refine S.sil 74 rfl rfl (fun _ hF => .fieldAddrC lay24 rfl rfl (lk 19 rfl rfl) rfl (flL_c (show flen _ = 1 from rfl) (flL_c (show flen _ = 1 from rfl) (flL_c (show flen _ = 1 from rfl) flL_nil)))) ?_
        refine S.sil 75 rfl rfl (fun _ hF => .loadC sz3 ag3 (lk 0 rfl rfl) rfl rfl) ?_
        refine S.sil 76 rfl rfl (fun _ hF => .sub (lk 2 rfl rfl) (lk 0 rfl rfl)) ?_
        refine S.sil 77 rfl rfl (fun _ hF => .move (lk 14 rfl rfl)) ?_
        refine S.sil 78 rfl rfl (fun _ hF => .fieldAddrC lay24 rfl rfl (lk 23 rfl rfl) rfl (flL_c (show flen _ = 1 from rfl) (flL_c (show flen _ = 1 from rfl) (flL_c (show flen _ = 1 from rfl) (flL_c (show flen _ = 1 from rfl) flL_nil))))) ?_
        refine S.sil 79 rfl rfl (fun _ hF => .loadC sz3 ag3 (lk 0 rfl rfl) rfl rfl) ?_
        refine S.sil 80 rfl rfl (fun _ hF => .add (lk 2 rfl rfl) (lk 0 rfl rfl)) ?_
        obtain ⟨r9, m9, h⟩ := h.bnd
        refine S.eff 81 rfl rfl (.nf (v2 := .tup [.slo 587 4 [] 0 0 r9.1.length 1, (V.int .i64) r9.2.1]) (H2 := [.dead, .dead, .dead, .cells ((V.int .i64) r9.2.2), .buf 587 (List.map E_TField r9.1)]) (.callH ent99 (lk 9 rfl rfl) [3] (C_plan_change_1_own m9) (by decide) (.cons (lt_cells ((TyOk.int .i64).lt _ _)) rfl (RSub.trans (.refl _) (.eq ((TyOk.int .i64).cl _ _).symm)) .nil) (ltL_c ((TyOk.int .i64).lt _ _) (ltL_c ((TyOk.int .i64).lt _ _) (ltL_c ((TyOk.int .i64).lt _ _) (ltL_c (lt_cptr (ty_TField.lt _ _)) (ltL_c rfl ltL_nil))))) (.c (lk 8 rfl rfl) (vsubr (V.sub.refl _) ((TyOk.int .i64).lt _ _)) (.c (lk 4 rfl rfl) (vsubr (V.sub.refl _) ((TyOk.int .i64).lt _ _)) (.c (lk 0 rfl rfl) (vsubr (V.sub.refl _) ((TyOk.int .i64).lt _ _)) (.cons (vsubr (V.sub.refl _) (lt_cptr (ty_TField.lt _ _))) (.cons (subren rfl) .nil))))) (ren_tup (renL_c rfl (renL_c ((TyOk.int .i64).cl _ _) rfl))) (mapc (ren_cells ((TyOk.int .i64).cl _ _)) (mapc (ren_buf ty_TField _) rfl)) rfl) rfl rfl) trivial ?_
        refine S.sil 82 rfl rfl (fun _ hF => .extract (lk 0 rfl rfl) rfl) ?_
        refine S.sil 83 rfl rfl (fun _ hF => .extract (lk 1 rfl rfl) rfl) ?_
        refine S.sil 6 rfl rfl (fun _ hF => .assign (lk 1 rfl rfl)) ?_
        refine S.sil 7 rfl rfl (fun _ hF => .assign (lk 1 rfl rfl)) ?_
        refine S.nil ?_
        refine thenQ_n ?_
        refine AWp.prune (.eq (lk 0 rfl rfl) rfl (.eq (lk 1 rfl rfl) rfl (.eq (lk 25 rfl rfl) rfl (.eq (lk 27 rfl rfl) rfl (.eq (lk 28 rfl rfl) rfl (.eq (lk 33 rfl rfl) rfl .nil)))))) ?_
        refine AWp.ret ?_
        refine blockQ_r ?_
        refine thenQ_r ?_
        obtain rfl := h.ret
        exact endFN rfl (Wk.selS [4] (by decide) rfl (SelE.spec (v := .slo 587 0 [] 0 0 r9.1.length 1) (lk 1 rfl rfl) rfl (.slo (by first | rfl | simp)) rfl rfl (SelE.leaf (lk 0 rfl rfl) rfl (.refl _) (fun m => ((TyOk.int .i64).lt _ _)) .nil)) (.cons (lt_buf (xs := r9.1) ty_TField) rfl ⟨rfl, RSubL.leafr ty_TField _ rfl⟩ .nil)) (.cons (.tmp (lk 0 rfl rfl) rfl) (.cons (.tmp (lk 1 rfl rfl) rfl) .nil)) rfl rfl rfl
      · skip
        refine AWp.seq ?_
        refine W.reg [0, 1] rfl ?_
        refine S.sil 85 rfl rfl (fun _ hF => .eql (lk 4 rfl rfl) cI) ?_
        refine S.sil 84 rfl rfl (fun _ hF => .assign (lk 0 rfl rfl)) ?_
        refine S.nil ?_
        refine thenQ_n ?_
        refine AWp.condM (lk 0 rfl rfl) h (fun c4 h => ?_) (fun c4 h => ?_)
        · skip
          refine AWp.seq ?_
          refine W.reg [0, 1, 2, 3, 4, 5, 6, 7, 8, 9, 10] rfl ?_
          refine S.sil 86 rfl rfl (fun _ hF => .move (lk 8 rfl rfl)) ?_
          refine S.sil 87 rfl rfl (fun _ hF => .move (lk 16 rfl rfl)) ?_
          refine S.sil 88 rfl rfl (fun _ hF => .fieldAddrC lay24 rfl rfl (lk 20 rfl rfl) rfl (flL_c (show flen _ = 1 from rfl) (flL_c (show flen _ = 1 from rfl) (flL_c (show flen _ = 1 from rfl) flL_nil)))) ?_
          refine S.sil 89 rfl rfl (fun _ hF => .loadC sz3 ag3 (lk 0 rfl rfl) rfl rfl) ?_
          refine S.sil 90 rfl rfl (fun _ hF => .fieldAddrC lay24 rfl rfl (lk 22 rfl rfl) rfl (flL_c (show flen _ = 1 from rfl) (flL_c (show flen _ = 1 from rfl) (flL_c (show flen _ = 1 from rfl) (flL_c (show flen _ = 1 from rfl) flL_nil))))) ?_
          refine S.sil 91 rfl rfl (fun _ hF => .loadC sz3 ag3 (lk 0 rfl rfl) rfl rfl) ?_
          obtain ⟨r10, m10, h⟩ := h.bnd
          refine S.eff 92 rfl rfl (.nf (v2 := .tup [.slo 587 4 [] 0 0 r10.1.length 1, (V.int .i64) r10.2.1]) (H2 := [.dead, .dead, .dead, .cells ((V.int .i64) r10.2.2), .buf 587 (List.map E_TField r10.1)]) (.callH ent99 (lk 5 rfl rfl) [3] (C_plan_change_1_own m10) (by decide) (.cons (lt_cells ((TyOk.int .i64).lt _ _)) rfl (RSub.trans (.refl _) (.eq ((TyOk.int .i64).cl _ _).symm)) .nil) (ltL_c ((TyOk.int .i64).lt _ _) (ltL_c ((TyOk.int .i64).lt _ _) (ltL_c ((TyOk.int .i64).lt _ _) (ltL_c (lt_cptr (ty_TField.lt _ _)) (ltL_c rfl ltL_nil))))) (.c (lk 4 rfl rfl) (vsubr (V.sub.refl _) ((TyOk.int .i64).lt _ _)) (.c (lk 2 rfl rfl) (vsubr (V.sub.refl _) ((TyOk.int .i64).lt _ _)) (.c (lk 0 rfl rfl) (vsubr (V.sub.refl _) ((TyOk.int .i64).lt _ _)) (.cons (vsubr (V.sub.refl _) (lt_cptr (ty_TField.lt _ _))) (.cons (subren rfl) .nil))))) (ren_tup (renL_c rfl (renL_c ((TyOk.int .i64).cl _ _) rfl))) (mapc (ren_cells ((TyOk.int .i64).cl _ _)) (mapc (ren_buf ty_TField _) rfl)) rfl) rfl rfl) trivial ?_
          refine S.sil 93 rfl rfl (fun _ hF => .extract (lk 0 rfl rfl) rfl) ?_
          refine S.sil 94 rfl rfl (fun _ hF => .extract (lk 1 rfl rfl) rfl) ?_
          refine S.sil 6 rfl rfl (fun _ hF => .assign (lk 1 rfl rfl)) ?_
          refine S.sil 7 rfl rfl (fun _ hF => .assign (lk 1 rfl rfl)) ?_
          refine S.nil ?_
          refine thenQ_n ?_
          refine AWp.prune (.eq (lk 0 rfl rfl) rfl (.eq (lk 1 rfl rfl) rfl (.eq (lk 23 rfl rfl) rfl (.eq (lk 25 rfl rfl) rfl (.eq (lk 26 rfl rfl) rfl (.eq (lk 31 rfl rfl) rfl .nil)))))) ?_
          refine AWp.ret ?_
          refine blockQ_r ?_
          refine thenQ_r ?_
          obtain rfl := h.ret
          exact endFN rfl (Wk.selS [4] (by decide) rfl (SelE.spec (v := .slo 587 0 [] 0 0 r10.1.length 1) (lk 1 rfl rfl) rfl (.slo (by first | rfl | simp)) rfl rfl (SelE.leaf (lk 0 rfl rfl) rfl (.refl _) (fun m => ((TyOk.int .i64).lt _ _)) .nil)) (.cons (lt_buf (xs := r10.1) ty_TField) rfl ⟨rfl, RSubL.leafr ty_TField _ rfl⟩ .nil)) (.cons (.tmp (lk 0 rfl rfl) rfl) (.cons (.tmp (lk 1 rfl rfl) rfl) .nil)) rfl rfl rfl
        · skip
          refine AWp.seq ?_
          refine W.reg [0, 1] rfl ?_
          refine S.sil 96 rfl rfl (fun _ hF => .eql (lk 6 rfl rfl) cI) ?_
          refine S.sil 95 rfl rfl (fun _ hF => .assign (lk 0 rfl rfl)) ?_
          refine S.nil ?_
          refine thenQ_n ?_
          refine AWp.condM (lk 0 rfl rfl) h (fun c5 h => ?_) (fun c5 h => ?_)
          · skip
            refine AWp.seq ?_
            refine W.reg [0, 1, 2, 3, 4, 5, 6] rfl ?_
            refine S.sil 97 rfl rfl (fun _ hF => .fieldAddrC lay43 rfl rfl (lk 22 rfl rfl) rfl (flL_c (show flen _ = 1 from rfl) (flL_c (show flen _ = 1 from rfl) flL_nil))) ?_
            refine S.sil 98 rfl rfl (fun _ hF => .loadC sz3 ag3 (lk 0 rfl rfl) rfl rfl) ?_
            refine S.sil 99 rfl rfl (fun _ hF => .fieldAddrC lay43 rfl rfl (lk 23 rfl rfl) rfl (flL_c (show flen _ = 1 from rfl) (flL_c (show flen _ = 1 from rfl) flL_nil))) ?_
            refine S.sil 100 rfl rfl (fun _ hF => .loadC sz3 ag3 (lk 0 rfl rfl) rfl rfl) ?_
            refine S.sil 101 rfl rfl (fun _ hF => .bmax (lk 2 rfl rfl) (lk 0 rfl rfl)) ?_
            refine S.sil 102 rfl rfl (fun _ hF => .add (lk 0 rfl rfl) cI) ?_
            obtain ⟨v11, ev11, h⟩ := h.nam
            refine S.effN rfl rfl (.nf (H2 := [.dead, .dead, .dead, .cells ((V.int .i64) v11)]) (.storeP sz3 (lk 20 rfl rfl) (lk 0 rfl rfl) rfl (.refl _) rfl .nil (by first | rfl | omega) .nil rfl rfl (congrArg (fun z => ([.dead, .dead, .dead, AObj.cells ((V.int .i64) z)] : List AObj)) ev11.symm)) rfl rfl) trivial ?_
            refine S.nil ?_
            refine thenQ_n ?_
            refine AWp.prune (.eq (lk 16 rfl rfl) rfl (.eq (lk 18 rfl rfl) rfl (.eq (lk 19 rfl rfl) rfl (.eq (lk 20 rfl rfl) rfl (.eq (lk 21 rfl rfl) rfl (.eq (lk 22 rfl rfl) rfl (.eq (lk 23 rfl rfl) rfl (.eq (lk 24 rfl rfl) rfl (.eq (lk 25 rfl rfl) rfl (.eq (lk 27 rfl rfl) rfl (.eq (lk 28 rfl rfl) rfl .nil))))))))))) ?_
            refine AWp.seq ?_
            refine W.reg [0, 1, 2, 3, 4, 5, 6, 7, 8, 9, 10, 11, 12, 13, 14, 15, 16, 17, 18] rfl ?_
            refine S.sil 103 rfl rfl (fun _ hF => .move (lk 0 rfl rfl)) ?_
            refine S.sil 104 rfl rfl (fun _ hF => .move (lk 7 rfl rfl)) ?_
            refine S.sil 105 rfl rfl (fun _ hF => .move (lk 6 rfl rfl)) ?_
            refine S.sil 106 rfl rfl (fun _ hF => .add (lk 1 rfl rfl) (lk 0 rfl rfl)) ?_
            refine S.sil 107 rfl rfl (fun _ hF => .move (lk 6 rfl rfl)) ?_
            refine S.sil 108 rfl rfl (fun _ hF => .fieldAddrC lay43 rfl rfl (lk 14 rfl rfl) rfl (flL_c (show flen _ = 1 from rfl) (flL_c (show flen _ = 1 from rfl) (flL_c (show flen _ = 1 from rfl) flL_nil)))) ?_
            refine S.sil 109 rfl rfl (fun _ hF => .fieldAddrC lay38 rfl rfl (lk 0 rfl rfl) rfl (flL_c (show flen _ = 1 from rfl) flL_nil)) ?_
            refine S.sil 110 rfl rfl (fun _ hF => .loadC sz3 ag3 (lk 0 rfl rfl) rfl rfl) ?_
            refine S.sil 111 rfl rfl (fun _ hF => .add (lk 3 rfl rfl) (lk 0 rfl rfl)) ?_
            refine S.sil 112 rfl rfl (fun _ hF => .move (lk 10 rfl rfl)) ?_
            refine S.sil 113 rfl rfl (fun _ hF => .fieldAddrC lay43 rfl rfl (lk 19 rfl rfl) rfl (flL_c (show flen _ = 1 from rfl) (flL_c (show flen _ = 1 from rfl) (flL_c (show flen _ = 1 from rfl) flL_nil)))) ?_
            refine S.sil 114 rfl rfl (fun _ hF => .fieldAddrC lay38 rfl rfl (lk 0 rfl rfl) rfl (flL_c (show flen _ = 1 from rfl) (flL_c (show flen _ = 1 from rfl) flL_nil))) ?_
            refine S.sil 115 rfl rfl (fun _ hF => .loadC sz3 ag3 (lk 0 rfl rfl) rfl rfl) ?_
            refine S.sil 116 rfl rfl (fun _ hF => .add (lk 3 rfl rfl) (lk 0 rfl rfl)) ?_
            obtain ⟨r12, m12, h⟩ := h.bnd
            refine S.eff 117 rfl rfl (.nf (v2 := .tup [.slo 587 4 [] 0 0 r12.1.length 1, (V.int .i64) r12.2.1]) (H2 := [.dead, .dead, .dead, .cells ((V.int .i64) r12.2.2), .buf 587 (List.map E_TField r12.1)]) (.callH ent99 (lk 13 rfl rfl) [3] (C_plan_change_1_own m12) (by decide) (.cons (lt_cells ((TyOk.int .i64).lt _ _)) rfl (RSub.trans (.refl _) (.eq ((TyOk.int .i64).cl _ _).symm)) .nil) (ltL_c ((TyOk.int .i64).lt _ _) (ltL_c ((TyOk.int .i64).lt _ _) (ltL_c ((TyOk.int .i64).lt _ _) (ltL_c (lt_cptr (ty_TField.lt _ _)) (ltL_c rfl ltL_nil))))) (.c (lk 10 rfl rfl) (vsubr (V.sub.refl _) ((TyOk.int .i64).lt _ _)) (.c (lk 5 rfl rfl) (vsubr (V.sub.refl _) ((TyOk.int .i64).lt _ _)) (.c (lk 0 rfl rfl) (vsubr (V.sub.refl _) ((TyOk.int .i64).lt _ _)) (.cons (vsubr (V.sub.refl _) (lt_cptr (ty_TField.lt _ _))) (.cons (subren rfl) .nil))))) (ren_tup (renL_c rfl (renL_c ((TyOk.int .i64).cl _ _) rfl))) (mapc (ren_cells ((TyOk.int .i64).cl _ _)) (mapc (ren_buf ty_TField _) rfl)) rfl) rfl rfl) trivial ?_
            refine S.sil 118 rfl rfl (fun _ hF => .extract (lk 0 rfl rfl) rfl) ?_
            refine S.sil 119 rfl rfl (fun _ hF => .extract (lk 1 rfl rfl) rfl) ?_
            refine S.sil 6 rfl rfl (fun _ hF => .assign (lk 1 rfl rfl)) ?_
            refine S.sil 7 rfl rfl (fun _ hF => .assign (lk 1 rfl rfl)) ?_
            refine S.nil ?_
            refine thenQ_n ?_
            refine AWp.prune (.eq (lk 0 rfl rfl) rfl (.eq (lk 1 rfl rfl) rfl (.eq (lk 22 rfl rfl) rfl (.eq (lk 24 rfl rfl) rfl (.eq (lk 25 rfl rfl) rfl (.eq (lk 29 rfl rfl) rfl .nil)))))) ?_
            refine AWp.ret ?_
            refine blockQ_r ?_
            refine thenQ_r ?_
            obtain rfl := h.ret
            exact endFN rfl (Wk.selS [4] (by decide) rfl (SelE.spec (v := .slo 587 0 [] 0 0 r12.1.length 1) (lk 1 rfl rfl) rfl (.slo (by first | rfl | simp)) rfl rfl (SelE.leaf (lk 0 rfl rfl) rfl (.refl _) (fun m => ((TyOk.int .i64).lt _ _)) .nil)) (.cons (lt_buf (xs := r12.1) ty_TField) rfl ⟨rfl, RSubL.leafr ty_TField _ rfl⟩ .nil)) (.cons (.tmp (lk 0 rfl rfl) rfl) (.cons (.tmp (lk 1 rfl rfl) rfl) .nil)) rfl rfl rfl
          · skip
            refine AWp.seq ?_
            refine W.reg [0, 1] rfl ?_
            refine S.sil 121 rfl rfl (fun _ hF => .eql (lk 8 rfl rfl) cI) ?_
            refine S.sil 120 rfl rfl (fun _ hF => .assign (lk 0 rfl rfl)) ?_
            refine S.nil ?_
            refine thenQ_n ?_
            refine AWp.prune (.eq (lk 0 rfl rfl) rfl (.eq (lk 12 rfl rfl) rfl (.eq (lk 14 rfl rfl) rfl (.eq (lk 15 rfl rfl) rfl (.eq (lk 16 rfl rfl) rfl (.eq (lk 18 rfl rfl) rfl (.eq (lk 19 rfl rfl) rfl (.eq (lk 20 rfl rfl) rfl (.eq (lk 21 rfl rfl) rfl (.eq (lk 22 rfl rfl) rfl (.eq (lk 24 rfl rfl) rfl .nil))))))))))) ?_
            refine AWp.condM (lk 0 rfl rfl) h (fun c6 h => ?_) (fun c6 h => ?_)
            · skip
              refine AWp.seq ?_
              refine W.reg [0, 1, 2, 3, 4, 5, 6, 7] rfl ?_
              refine S.sil 122 rfl rfl (fun _ hF => .move (lk 6 rfl rfl)) ?_
              refine S.sil 123 rfl rfl (fun _ hF => .move (lk 3 rfl rfl)) ?_
              refine S.sil 124 rfl rfl (fun _ hF => .fieldAddrC lay24 rfl rfl (lk 11 rfl rfl) rfl (flL_c (show flen _ = 1 from rfl) (flL_c (show flen _ = 1 from rfl) (flL_c (show flen _ = 1 from rfl) flL_nil)))) ?_
              refine S.sil 125 rfl rfl (fun _ hF => .loadC sz3 ag3 (lk 0 rfl rfl) rfl rfl) ?_
              refine S.sil 126 rfl rfl (fun _ hF => .sub (lk 2 rfl rfl) (lk 0 rfl rfl)) ?_
              refine S.sil 127 rfl rfl (fun _ hF => .sub (lk 4 rfl rfl) (lk 0 rfl rfl)) ?_
              refine S.sil 128 rfl rfl (fun _ hF => .bmax cI (lk 0 rfl rfl)) ?_
              obtain ⟨v13, ev13, h⟩ := h.nam
              refine S.sil 16 rfl rfl (fun _ hF => .nv (.assign (lk 0 rfl rfl)) (congrArg (V.int .i64) ev13.symm)) ?_
              refine S.nil ?_
              refine thenQ_n ?_
              refine AWp.seq ?_
              refine W.reg [0, 1, 2, 3, 4, 5, 6, 7, 8, 9, 10, 11, 12] rfl ?_
              refine S.sil 130 rfl rfl (fun _ hF => .fieldAddrC lay24 rfl rfl (lk 17 rfl rfl) rfl (flL_c (show flen _ = 1 from rfl) (flL_c (show flen _ = 1 from rfl) flL_nil))) ?_
              refine S.sil 131 rfl rfl (fun _ hF => .loadC sz9 ag9 (lk 0 rfl rfl) rfl rfl) ?_
              refine S.qui 132 rfl rfl (fun _ => .loadP sz3 ag3 (lk 14 rfl rfl) rfl .nil (by first | rfl | omega) rfl rfl) ?_
              refine S.sil 133 rfl rfl (fun _ hF => .move (lk 3 rfl rfl)) ?_
              refine S.sil 134 rfl rfl (fun _ hF => .fieldAddrC lay24 rfl rfl (lk 21 rfl rfl) rfl (flL_c (show flen _ = 1 from rfl) (flL_c (show flen _ = 1 from rfl) (flL_c (show flen _ = 1 from rfl) flL_nil)))) ?_
              refine S.sil 135 rfl rfl (fun _ hF => .loadC sz3 ag3 (lk 0 rfl rfl) rfl rfl) ?_
              obtain ⟨r14, m14, h⟩ := h.bnd
              refine S.sil 136 rfl rfl (fun _ hF => .callQ ent100 cF (.c (lk 4 rfl rfl) (V.sub.refl _) (.c (lk 3 rfl rfl) (V.sub.refl _) (.c (lk 2 rfl rfl) (V.sub.refl _) (.c cI (V.sub.refl _) (.c (lk 0 rfl rfl) (V.sub.refl _) .nil))))) (C_plan_made m14)) ?_
              refine S.sil 129 rfl rfl (fun _ hF => .move (lk 0 rfl rfl)) ?_
              refine S.sil 137 rfl rfl (fun _ hF => .extract (lk 0 rfl rfl) rfl) ?_
              refine S.sil 138 rfl rfl (fun _ hF => .extract (lk 1 rfl rfl) rfl) ?_
              refine S.eff 17 rfl rfl (.nf (v2 := .ptr 4 [] 0) (H2 := [.dead, .dead, .dead, .cells ((V.int .i64) v7), .cells (.st [V.str (default : ByteArray), (V.int .i64) 0, (V.int .i64) 0, E_TCounter (default : TCounter), E_TLock (default : TLock), .nils])]) (.alloc zv43) rfl rfl) trivial ?_
              refine S.effN rfl rfl (.nf (H2 := [.dead, .dead, .dead, .cells ((V.int .i64) v7), .cells (E_TField r14.1)]) (.storeP sz43 (lk 0 rfl rfl) (lk 2 rfl rfl) rfl (.refl _) rfl .nil (by first | rfl | omega) .nil (ty_TField.fl r14.1) (fl_st (flL_c (show flen _ = 1 from rfl) (flL_c (show flen _ = 1 from rfl) (flL_c (show flen _ = 1 from rfl) (flL_c (ty_TCounter.fl (default : TCounter)) (flL_c (ty_TLock.fl (default : TLock)) (flL_c (show flen _ = 1 from rfl) flL_nil))))))) rfl) rfl rfl) trivial ?_
              refine S.sil 18 rfl rfl (fun _ hF => .assign (lk 1 rfl rfl)) ?_
              refine S.nil ?_
              refine thenQ_n ?_
              refine AWp.wk (Wk.freeze 4 rfl rfl (.same (lk 0 rfl rfl) (.cons (lk 1 rfl rfl) rfl (.ptr .nil (by first | rfl | omega)) (.same (lk 12 rfl rfl) (.same (lk 21 rfl rfl) (.same (lk 22 rfl rfl) (.same (lk 23 rfl rfl) (.same (lk 24 rfl rfl) (.same (lk 25 rfl rfl) (.same (lk 26 rfl rfl) (.same (lk 27 rfl rfl) (.same (lk 28 rfl rfl) (.same (lk 29 rfl rfl) (.same (lk 30 rfl rfl) .nil))))))))))))) (.refl _)) ?_
              refine AWp.seq ?_
              refine AWp.seq ?_
              refine W.reg [0, 1] rfl ?_
              refine S.sil 139 rfl rfl (fun _ hF => .move (lk 0 rfl rfl)) ?_
              refine S.sil 140 rfl rfl (fun _ hF => .neq (lk 0 rfl rfl) cI) ?_
              refine S.nil ?_
              refine thenQ_n ?_
              refine AWp.condM (lk 0 rfl rfl) h (fun c7 h => ?_) (fun c7 h => ?_)
              · skip
                refine AWp.seq ?_
                refine W.reg [0, 1, 2] rfl ?_
                refine S.sil 141 rfl rfl (fun _ hF => .move (lk 2 rfl rfl)) ?_
                refine S.sil 6 rfl rfl (fun _ hF => .assign cNs) ?_
                refine S.sil 7 rfl rfl (fun _ hF => .assign (lk 1 rfl rfl)) ?_
                refine S.nil ?_
                refine thenQ_n ?_
                refine AWp.ret ?_
                refine thenQ_r ?_
                refine blockQ_r ?_
                refine thenQ_r ?_
                refine endF_wk (Wk.nilbuf 587 (lk 1 rfl rfl)) ?_
                obtain rfl := h.ret
                exact endFN rfl (Wk.selS [5] (by decide) rfl (SelE.spec (v := .slo 587 0 [] 0 0 ([] : List TField).length 1) (lk 0 rfl rfl) rfl (.slo (by first | rfl | simp)) rfl rfl (SelE.leaf (lk 1 rfl rfl) rfl (.refl _) (fun m => ((TyOk.int .i64).lt _ _)) .nil)) (.cons rfl rfl (ASub.refl _) .nil)) (.cons (.tmp (lk 0 rfl rfl) rfl) (.cons (.tmp (lk 1 rfl rfl) rfl) .nil)) rfl rfl rfl
              · skip
                refine AWp.skip ?_
                refine thenQ_n ?_
                refine AWp.seq ?_
                refine W.reg [0, 1, 2, 3, 4, 5, 6, 7, 8, 9, 10, 11, 12, 13, 14] rfl ?_
                refine S.sil 143 rfl rfl (fun _ hF => .move (lk 5 rfl rfl)) ?_
                refine S.sil 144 rfl rfl (fun _ hF => .move (lk 11 rfl rfl)) ?_
                refine S.sil 145 rfl rfl (fun _ hF => .move (lk 6 rfl rfl)) ?_
                refine S.sil 146 rfl rfl (fun _ hF => .sub (lk 1 rfl rfl) (lk 0 rfl rfl)) ?_
                refine S.sil 147 rfl rfl (fun _ hF => .move (lk 11 rfl rfl)) ?_
                refine S.sil 148 rfl rfl (fun _ hF => .move (lk 11 rfl rfl)) ?_
                refine S.sil 149 rfl rfl (fun _ hF => .fieldAddrC lay24 rfl rfl (lk 19 rfl rfl) rfl (flL_c (show flen _ = 1 from rfl) (flL_c (show flen _ = 1 from rfl) (flL_c (show flen _ = 1 from rfl) flL_nil)))) ?_
                refine S.sil 150 rfl rfl (fun _ hF => .loadC sz3 ag3 (lk 0 rfl rfl) rfl rfl) ?_
                refine S.sil 151 rfl rfl (fun _ hF => .sub (lk 2 rfl rfl) (lk 0 rfl rfl)) ?_
                obtain ⟨r15, m15, h⟩ := h.bnd
                refine S.eff 152 rfl rfl (.nf (v2 := .tup [.slo 587 5 [] 0 0 r15.1.length 1, (V.int .i64) r15.2.1]) (H2 := [.dead, .dead, .dead, .cells ((V.int .i64) r15.2.2), .dead, .buf 587 (List.map E_TField r15.1)]) (.callH ent99 (lk 8 rfl rfl) [3] (C_plan_change_1_own m15) (by decide) (.cons (lt_cells ((TyOk.int .i64).lt _ _)) rfl (RSub.trans (.refl _) (.eq ((TyOk.int .i64).cl _ _).symm)) .nil) (ltL_c ((TyOk.int .i64).lt _ _) (ltL_c ((TyOk.int .i64).lt _ _) (ltL_c ((TyOk.int .i64).lt _ _) (ltL_c (lt_cptr (ty_TField.lt _ _)) (ltL_c rfl ltL_nil))))) (.c (lk 5 rfl rfl) (vsubr (V.sub.refl _) ((TyOk.int .i64).lt _ _)) (.c (lk 4 rfl rfl) (vsubr (V.sub.refl _) ((TyOk.int .i64).lt _ _)) (.c (lk 0 rfl rfl) (vsubr (V.sub.refl _) ((TyOk.int .i64).lt _ _)) (.cons (vsubr (V.sub.refl _) (lt_cptr (ty_TField.lt _ _))) (.cons (subren rfl) .nil))))) (ren_tup (renL_c rfl (renL_c ((TyOk.int .i64).cl _ _) rfl))) (mapc (ren_cells ((TyOk.int .i64).cl _ _)) (mapc (ren_buf ty_TField _) rfl)) rfl) rfl rfl) trivial ?_
                refine S.sil 142 rfl rfl (fun _ hF => .move (lk 0 rfl rfl)) ?_
                refine S.sil 153 rfl rfl (fun _ hF => .extract (lk 0 rfl rfl) rfl) ?_
                refine S.sil 154 rfl rfl (fun _ hF => .extract (lk 1 rfl rfl) rfl) ?_
                refine S.sil 19 rfl rfl (fun _ hF => .assign (lk 1 rfl rfl)) ?_
                refine S.sil 18 rfl rfl (fun _ hF => .assign (lk 1 rfl rfl)) ?_
                refine S.nil ?_
                refine thenQ_n ?_
                refine AWp.prune (.eq (lk 0 rfl rfl) rfl (.eq (lk 1 rfl rfl) rfl (.eq (lk 18 rfl rfl) rfl (.eq (lk 23 rfl rfl) rfl (.eq (lk 24 rfl rfl) rfl (.eq (lk 25 rfl rfl) rfl (.eq (lk 26 rfl rfl) rfl (.eq (lk 27 rfl rfl) rfl (.eq (lk 29 rfl rfl) rfl .nil))))))))) ?_
                refine AWp.seq ?_
                refine W.reg [0, 1, 2, 3, 4, 5, 6] rfl ?_
                refine S.sil 155 rfl rfl (fun _ hF => .move (lk 1 rfl rfl)) ?_
                refine S.sil 156 rfl rfl (fun _ hF => .loadC sz43 ag43 (lk 3 rfl rfl) (ty_TField.fl r14.1) rfl) ?_
                refine S.sil 157 rfl rfl (fun _ hF => .buildSliceW sli22 zv43 rfl rfl (by decide) (.cons (lk 0 rfl rfl) rfl (.refl _) (ty_TField.fl r14.1) .nil)) ?_
                obtain ⟨l16, m16, h⟩ := h.bnd
                refine S.eff 158 rfl rfl (.nf (v2 := .slo 587 6 [] 0 0 l16.length 1) (H2 := [.dead, .dead, .dead, .cells ((V.int .i64) r15.2.2), .dead, .dead, .buf 587 (List.map E_TField l16)]) (.appOwnT sli22 und22 zv43 rfl (by decide) (lk 2 rfl rfl) rfl (by first | rfl | simp) (lk 0 rfl rfl) Rd.sl m16 rfl) rfl rfl) trivial ?_
                refine S.sil 159 rfl rfl (fun _ hF => .move (lk 4 rfl rfl)) ?_
                refine S.sil 6 rfl rfl (fun _ hF => .assign (lk 1 rfl rfl)) ?_
                refine S.sil 7 rfl rfl (fun _ hF => .assign (lk 1 rfl rfl)) ?_
                refine S.nil ?_
                refine thenQ_n ?_
                refine AWp.prune (.eq (lk 0 rfl rfl) rfl (.eq (lk 1 rfl rfl) rfl (.eq (lk 10 rfl rfl) rfl (.eq (lk 11 rfl rfl) rfl (.eq (lk 12 rfl rfl) rfl (.eq (lk 15 rfl rfl) rfl .nil)))))) ?_
                refine AWp.ret ?_
                refine blockQ_r ?_
                refine thenQ_r ?_
                obtain rfl := h.ret
                exact endFN rfl (Wk.selS [6] (by decide) rfl (SelE.spec (v := .slo 587 0 [] 0 0 l16.length 1) (lk 1 rfl rfl) rfl (.slo (by first | rfl | simp)) rfl rfl (SelE.leaf (lk 0 rfl rfl) rfl (.refl _) (fun m => ((TyOk.int .i64).lt _ _)) .nil)) (.cons (lt_buf (xs := l16) ty_TField) rfl ⟨rfl, RSubL.leafr ty_TField _ rfl⟩ .nil)) (.cons (.tmp (lk 0 rfl rfl) rfl) (.cons (.tmp (lk 1 rfl rfl) rfl) .nil)) rfl rfl rfl
            · skip
              refine AWp.skip ?_
              refine blockQ_n ?_
              refine thenQ_n ?_
              refine AWp.seq ?_
              refine W.reg [0, 1, 2, 3, 4, 5, 6, 7] rfl ?_
              refine S.sil 161 rfl rfl (fun _ hF => .move (lk 6 rfl rfl)) ?_
              obtain ⟨r17, m17, h⟩ := h.bnd
              refine S.sil 162 rfl rfl (fun _ hF => .callQ ent101 cF (.c cI (V.sub.refl _) (.c (lk 0 rfl rfl) (V.sub.refl _) .nil)) (C_lock_New m17)) ?_
              refine S.sil 160 rfl rfl (fun _ hF => .move (lk 0 rfl rfl)) ?_
              refine S.sil 163 rfl rfl (fun _ hF => .extract (lk 0 rfl rfl) rfl) ?_
              refine S.sil 164 rfl rfl (fun _ hF => .extract (lk 1 rfl rfl) rfl) ?_
              refine S.eff 20 rfl rfl (.nf (v2 := .ptr 4 [] 0) (H2 := [.dead, .dead, .dead, .cells ((V.int .i64) v7), .cells (E_TLock (default : TLock))]) (.alloc zv40) rfl rfl) trivial ?_
              refine S.effN rfl rfl (.nf (H2 := [.dead, .dead, .dead, .cells ((V.int .i64) v7), .cells (E_TLock r17.1)]) (.storeP sz40 (lk 0 rfl rfl) (lk 2 rfl rfl) rfl (.refl _) rfl .nil (by first | rfl | omega) .nil (ty_TLock.fl r17.1) (ty_TLock.fl (default : TLock)) rfl) rfl rfl) trivial ?_
              refine S.sil 9 rfl rfl (fun _ hF => .assign (lk 1 rfl rfl)) ?_
              refine S.nil ?_
              refine thenQ_n ?_
              refine AWp.wk (Wk.freeze 4 rfl rfl (.same (lk 0 rfl rfl) (.cons (lk 1 rfl rfl) rfl (.ptr .nil (by first | rfl | omega)) (.same (lk 11 rfl rfl) (.same (lk 14 rfl rfl) (.same (lk 15 rfl rfl) (.same (lk 17 rfl rfl) .nil)))))) (.refl _)) ?_
              refine AWp.seq ?_
              refine AWp.seq ?_
              refine W.reg [0, 1, 2, 3, 4, 5, 6] rfl ?_
              refine S.sil 165 rfl rfl (fun _ hF => .move (lk 0 rfl rfl)) ?_
              refine S.sil 166 rfl rfl (fun _ hF => .neq (lk 0 rfl rfl) cI) ?_
              refine S.sil 167 rfl rfl (fun _ hF => .move (lk 0 rfl rfl)) ?_
              refine S.gqui 168 2 167 false rfl rfl rfl (lk 0 rfl rfl) (fun hB _ => .loadP sz3 ag3 (lk 5 rfl rfl) rfl .nil (by first | rfl | omega) rfl rfl) ?_
              obtain ⟨r18, m18, h⟩ := h.bnd
              refine S.gsil 169 2 167 false rfl rfl rfl (lk 1 rfl rfl) (fun hB _ hF => .callQ ent46 cF (.c (ifT hB (lk 0 rfl rfl)) (V.sub.refl _) .nil) (C_num_Is (gd_get m18 hB))) ?_
              refine S.gsil 170 2 167 false rfl rfl rfl (lk 2 rfl rfl) (fun hB _ hF => .not (ifT hB (lk 0 rfl rfl))) ?_
              refine S.sil 171 rfl rfl (fun _ hF => .pickOr (lk 3 rfl rfl) cB (fun h => ifT h (lk 0 rfl rfl))) ?_
              refine S.nil ?_
              refine thenQ_n ?_
              refine AWp.condM (lk 0 rfl rfl) h (fun c8 h => ?_) (fun c8 h => ?_)
              · skip
                refine AWp.seq ?_
                refine W.reg [0, 1] rfl ?_
                refine S.sil 6 rfl rfl (fun _ hF => .assign cNs) ?_
                refine S.sil 7 rfl rfl (fun _ hF => .assign cI) ?_
                refine S.nil ?_
                refine thenQ_n ?_
                refine AWp.prune (.eq (lk 0 rfl rfl) rfl (.eq (lk 1 rfl rfl) rfl (.eq (lk 10 rfl rfl) rfl (.eq (lk 11 rfl rfl) rfl (.eq (lk 14 rfl rfl) rfl .nil))))) ?_
                refine AWp.ret ?_
                refine thenQ_r ?_
                refine endF_wk (Wk.nilbuf 587 (lk 1 rfl rfl)) ?_
                obtain rfl := h.ret
                exact endFN rfl (Wk.selS [5] (by decide) rfl (SelE.spec (v := .slo 587 0 [] 0 0 ([] : List TField).length 1) (lk 0 rfl rfl) rfl (.slo (by first | rfl | simp)) rfl rfl (SelE.leaf (lk 1 rfl rfl) rfl (.refl _) (fun m => ((TyOk.int .i64).lt _ _)) .nil)) (.cons rfl rfl (ASub.refl _) .nil)) (.cons (.tmp (lk 0 rfl rfl) rfl) (.cons (.tmp (lk 1 rfl rfl) rfl) .nil)) rfl rfl rfl
              · skip
                refine AWp.skip ?_
                refine thenQ_n ?_
                refine AWp.seq ?_
                refine W.reg [0, 1, 2, 3, 4, 5, 6, 7] rfl ?_
                refine S.sil 172 rfl rfl (fun _ hF => .fieldAddrC lay43 rfl rfl (lk 12 rfl rfl) rfl flL_nil) ?_
                refine S.sil 173 rfl rfl (fun _ hF => .loadC sz9 ag9 (lk 0 rfl rfl) rfl rfl) ?_
                refine S.qui 174 rfl rfl (fun _ => .loadP sz3 ag3 (lk 11 rfl rfl) rfl .nil (by first | rfl | omega) rfl rfl) ?_
                refine S.sil 175 rfl rfl (fun _ hF => .loadC sz40 ag40 (lk 11 rfl rfl) (ty_TLock.fl r17.1) rfl) ?_
                obtain ⟨v19, ev19, h⟩ := h.nam
                refine S.sil 176 rfl rfl (fun _ hF => .nv (.vs (v := .st [V.str a1.Name, (V.int .i64) 2, (V.int .i64) v7, E_TCounter (default : TCounter), E_TLock r17.1, .nils]) (v2 := E_TField (⟨a1.Name, 2, v7, (default : TCounter), r17.1, ([] : List THold)⟩ : TField)) (.buildStW lay43 zv43 rfl (.cons (lk 2 rfl rfl) rfl rfl rfl rfl (.cons cI rfl rfl rfl rfl (.cons (lk 1 rfl rfl) rfl rfl rfl rfl (.cons (lk 0 rfl rfl) rfl rfl (ty_TLock.fl r17.1) rfl .nil))))) rfl (.st (.cons (.refl _) (.cons (.refl _) (.cons (.refl _) (.cons (.refl _) (.cons (.refl _) (.cons (.nils_no _) .nil)))))))) (congrArg E_TField ev19.symm)) ?_
                obtain ⟨v20, ev20, h⟩ := h.nam
                refine S.eff 177 rfl rfl (.nf (v2 := .slo 587 5 [] 0 0 1 1) (H2 := [.dead, .dead, .dead, .cells ((V.int .i64) v7), .dead, .buf 587 (List.map E_TField v20)]) (.buildOwn (vs := List.map E_TField [v19]) sli22 zv43 rfl rfl (by decide) (.cons (lk 0 rfl rfl) rfl (.refl _) (ty_TField.fl v19) .nil) (congrArg (fun z => ([.dead, .dead, .dead, .cells ((V.int .i64) v7), .dead, AObj.buf 587 (List.map E_TField z)] : List AObj)) ev20.symm)) rfl rfl) trivial ?_
                refine S.sil 6 rfl rfl (fun _ hF => .assign (lk 0 rfl rfl)) ?_
                refine S.sil 7 rfl rfl (fun _ hF => .assign cI) ?_
                refine S.nil ?_
                refine thenQ_n ?_
                refine AWp.prune (.eq (lk 0 rfl rfl) rfl (.eq (lk 1 rfl rfl) rfl .nil)) ?_
                refine AWp.ret ?_
                obtain rfl := h.ret
                exact endFN rfl (Wk.selS [5] (by decide) rfl (SelE.spec (v := .slo 587 0 [] 0 0 v20.length 1) (lk 1 rfl rfl) rfl (.slo (by first | rfl | simp [ev20, ev19, ev7])) rfl rfl (SelE.leaf (lk 0 rfl rfl) rfl (.refl _) (fun m => ((TyOk.int .i64).lt _ _)) .nil)) (.cons (lt_buf (xs := v20) ty_TField) rfl ⟨rfl, RSubL.leafr ty_TField _ rfl⟩ .nil)) (.cons (.tmp (lk 0 rfl rfl) rfl) (.cons (.tmp (lk 1 rfl rfl) rfl) .nil)) rfl rfl rfl
theorem C_plan_Touched {a1 : TPlan} {a2 : ByteArray} {r : Bool} (h : plan_Touched a1 a2 = some r) : PureC Pg 12 [E_TPlan a1, V.str a2] (V.bool r) := by
  refine PureC.ofF (CallSpec.of_bodyF 20 0 fn12 rfl rfl rfl (Nat.le_of_ble_eq_true rfl) ?_) (ltL_c (ty_TPlan.lt _ _) (ltL_c (TyOk.str.lt _ _) ltL_nil)) (TyOk.bool.lt _ _)
  replace h := Ok.of h
  unfold plan_Touched at h
  refine AWp.seq ?_
  refine W.reg [0, 1] rfl ?_
  refine S.eff 2 rfl rfl (.nf (v2 := .ptr 0 [] 0) (H2 := [.cells (E_TPlan a1)]) (.box (lk 0 rfl rfl) rfl) rfl rfl) trivial ?_
  refine S.sil 4 rfl rfl (fun _ hF => .assign cB) ?_
  refine S.nil ?_
  refine thenQ_n ?_
  refine AWp.wk (Wk.freeze 0 rfl rfl (.same (lk 0 rfl rfl) (.cons (lk 1 rfl rfl) rfl (.ptr .nil (by first | rfl | omega)) (.same (lk 3 rfl rfl) .nil))) (.refl _)) ?_
  refine AWp.seq ?_
  refine W.reg [0, 1, 2, 3, 4, 5, 6, 7, 8, 9, 10, 11, 12, 13, 14, 15] rfl ?_
  refine S.sil 5 rfl rfl (fun _ hF => .move (lk 2 rfl rfl)) ?_
  refine S.sil 6 rfl rfl (fun _ hF => .fieldAddrC lay24 rfl rfl (lk 2 rfl rfl) rfl (flL_c (show flen _ = 1 from rfl) flL_nil)) ?_
  refine S.sil 7 rfl rfl (fun _ hF => .loadC sz9 ag9 (lk 0 rfl rfl) rfl rfl) ?_
  refine S.sil 8 rfl rfl (fun _ hF => .eqlS (lk 2 rfl rfl) (lk 0 rfl rfl)) ?_
  refine S.sil 9 rfl rfl (fun _ hF => .move (lk 0 rfl rfl)) ?_
  refine S.gsil 10 4 9 false rfl rfl rfl (lk 0 rfl rfl) (fun hB _ hF => .fieldAddrC lay24 rfl rfl (lk 6 rfl rfl) rfl (flL_c (show flen _ = 1 from rfl) (flL_c (show flen _ = 1 from rfl) flL_nil))) ?_
  refine S.gsil 11 4 9 false rfl rfl rfl (lk 1 rfl rfl) (fun hB _ hF => .loadC sz9 ag9 (ifT hB (lk 0 rfl rfl)) rfl rfl) ?_
  refine S.gsil 12 4 9 false rfl rfl rfl (lk 2 rfl rfl) (fun hB _ hF => .neqS (ifT hB (lk 0 rfl rfl)) cS) ?_
  refine S.gsil 13 4 9 false rfl rfl rfl (lk 3 rfl rfl) (fun hB _ hF => .move (ifT hB (lk 0 rfl rfl))) ?_
  refine S.gsil2 14 8 13 true rfl rfl rfl (lk 0 rfl rfl) (fun hB _ hF => .move (lk 11 rfl rfl)) ?_
  refine S.gsil2 15 8 13 true rfl rfl rfl (lk 1 rfl rfl) (fun hB _ hF => .fieldAddrC lay24 rfl rfl (lk 11 rfl rfl) rfl (flL_c (show flen _ = 1 from rfl) (flL_c (show flen _ = 1 from rfl) flL_nil))) ?_
  refine S.gsil2 16 8 13 true rfl rfl rfl (lk 2 rfl rfl) (fun hB _ hF => .loadC sz9 ag9 (ifT hB (lk 0 rfl rfl)) rfl rfl) ?_
  refine S.gsil2 17 8 13 true rfl rfl rfl (lk 3 rfl rfl) (fun hB _ hF => .eqlS (ifT hB (lk 2 rfl rfl)) (ifT hB (lk 0 rfl rfl))) ?_
  refine S.gsil 18 4 9 false rfl rfl rfl (lk 8 rfl rfl) (fun hB _ hF => .pickAnd (ifT hB (lk 4 rfl rfl)) (fun h => ifT ⟨hB, h⟩ (lk 0 rfl rfl)) cB) ?_
  obtain ⟨v3, ev3, h⟩ := h.nam
  refine S.sil 19 rfl rfl (fun _ hF => .nv (.pickOr (lk 9 rfl rfl) cB (fun h => ifT h (lk 0 rfl rfl))) (congrArg V.bool ev3.symm)) ?_
  refine S.sil 4 rfl rfl (fun _ hF => .assign (lk 0 rfl rfl)) ?_
  refine S.nil ?_
  refine thenQ_n ?_
  refine AWp.prune (.eq (lk 0 rfl rfl) rfl .nil) ?_
  refine AWp.ret ?_
  obtain rfl := h.ret
  exact endF1 rfl (Wk.selS [] .nil rfl (SelE.leaf (lk 0 rfl rfl) rfl (.refl _) (fun m => (TyOk.bool.lt _ _)) .nil) .nil) (.tmp (lk 0 rfl rfl) rfl) rfl rfl
theorem C_plan_Apply_1 {a1 : TField} {a2 : TField} {r : Int} (h : plan_Apply_1 a1 a2 = some r) : PureC Pg 59 [E_TField a1, E_TField a2] ((V.int .i64) r) := by
  refine PureC.ofF (CallSpec.of_bodyF 10 0 fn59 rfl rfl rfl (Nat.le_of_ble_eq_true rfl) ?_) (ltL_c (ty_TField.lt _ _) (ltL_c (ty_TField.lt _ _) ltL_nil)) ((TyOk.int .i64).lt _ _)
  replace h := Ok.of h
  unfold plan_Apply_1 at h
  refine AWp.seq ?_
  refine W.reg [0, 1, 2] rfl ?_
  refine S.eff 2 rfl rfl (.nf (v2 := .ptr 0 [] 0) (H2 := [.cells (E_TField a1)]) (.box (lk 0 rfl rfl) rfl) rfl rfl) trivial ?_
  refine S.eff 3 rfl rfl (.nf (v2 := .ptr 1 [] 0) (H2 := [.cells (E_TField a1), .cells (E_TField a2)]) (.box (lk 2 rfl rfl) rfl) rfl rfl) trivial ?_
  refine S.sil 4 rfl rfl (fun _ hF => .assign cI) ?_
  refine S.nil ?_
  refine thenQ_n ?_
  refine AWp.wk (Wk.freeze 0 rfl rfl (.same (lk 0 rfl rfl) (.same (lk 1 rfl rfl) (.cons (lk 2 rfl rfl) rfl (.ptr .nil (by first | rfl | omega)) .nil))) (.refl _)) ?_
  refine AWp.wk (Wk.freeze 1 rfl rfl (.same (lk 0 rfl rfl) (.cons (lk 1 rfl rfl) rfl (.ptr .nil (by first | rfl | omega)) (.same (lk 2 rfl rfl) .nil))) (.refl _)) ?_
  refine AWp.seq ?_
  refine AWp.seq ?_
  refine W.reg [0, 1, 2, 3, 4] rfl ?_
  refine S.sil 5 rfl rfl (fun _ hF => .fieldAddrC lay43 rfl rfl (lk 2 rfl rfl) rfl flL_nil) ?_
  refine S.sil 6 rfl rfl (fun _ hF => .loadC sz9 ag9 (lk 0 rfl rfl) rfl rfl) ?_
  refine S.sil 7 rfl rfl (fun _ hF => .fieldAddrC lay43 rfl rfl (lk 3 rfl rfl) rfl flL_nil) ?_
  refine S.sil 8 rfl rfl (fun _ hF => .loadC sz9 ag9 (lk 0 rfl rfl) rfl rfl) ?_
  refine S.sil 9 rfl rfl (fun _ hF => .lssS (lk 2 rfl rfl) (lk 0 rfl rfl)) ?_
  refine S.nil ?_
  refine thenQ_n ?_
  refine AWp.condM (lk 0 rfl rfl) h (fun c1 h => ?_) (fun c1 h => ?_)
  · skip
    refine AWp.seq ?_
    refine W.reg [0] rfl ?_
    refine S.sil 4 rfl rfl (fun _ hF => .assign cI) ?_
    refine S.nil ?_
    refine thenQ_n ?_
    refine AWp.ret ?_
    refine thenQ_r ?_
    obtain rfl := h.ret
    exact endF1 rfl (Wk.selS [] .nil rfl (SelE.leaf (lk 0 rfl rfl) rfl (.refl _) (fun m => ((TyOk.int .i64).lt _ _)) .nil) .nil) (.tmp (lk 0 rfl rfl) rfl) rfl rfl
  · skip
    refine AWp.skip ?_
    refine thenQ_n ?_
    refine AWp.seq ?_
    refine W.reg [0] rfl ?_
    refine S.sil 4 rfl rfl (fun _ hF => .assign cI) ?_
    refine S.nil ?_
    refine thenQ_n ?_
    refine AWp.ret ?_
    obtain rfl := h.ret
    exact endF1 rfl (Wk.selS [] .nil rfl (SelE.leaf (lk 0 rfl rfl) rfl (.refl _) (fun m => ((TyOk.int .i64).lt _ _)) .nil) .nil) (.tmp (lk 0 rfl rfl) rfl) rfl rfl
end Go.Av
namespace Go.Proofs
open Go.Shelf in
def Tryz.sort58_ren : Go.Shelf.Ren := ⟨fun | 6 => 58 | 15 => 103 | 14 => 102 | 28 => 140 | 29 => 141 | 20 => 132 | 21 => 133 | 22 => 134 | 23 => 135 | 24 => 136 | 25 => 137 | 26 => 138 | 27 => 139 | 46 => 157 | 47 => 158 | 48 => 159 | 49 => 160 | 50 => 161 | 57 => 170 | n => n, fun | 22 => 22 | 24 => 43 | 25 => 88 | 3 => 3 | 39 => 119 | 0 => 0 | 53 => 144 | 55 => 146 | 4 => 4 | 46 => 138 | 45 => 137 | 50 => 30 | 5 => 5 | 9 => 9 | 66 => 155 | 70 => 159 | 76 => 166 | 77 => 55 | n => n, fun | n => n⟩
open Go.Shelf in
theorem Tryz.sort58 : Go.Proofs.SlLaysF0.n6 Tryz.prog Tryz.sort58_ren := {
  mixed := by kernel_rfl
  f6 := ⟨Tryz.f58.name, by decide, Tryz.func58.trans (congrArg some (by kernel_rfl))⟩
  f14 := ⟨Tryz.f102.name, by decide, Tryz.func102.trans (congrArg some (by kernel_rfl))⟩
  f15 := Tryz.func103.trans (congrArg some (by kernel_rfl))
  f20 := ⟨Tryz.f132.name, by decide, Tryz.func132.trans (congrArg some (by kernel_rfl))⟩
  f21 := ⟨Tryz.f133.name, by decide, Tryz.func133.trans (congrArg some (by kernel_rfl))⟩
  f22 := ⟨Tryz.f134.name, by decide, Tryz.func134.trans (congrArg some (by kernel_rfl))⟩
  f23 := ⟨Tryz.f135.name, by decide, Tryz.func135.trans (congrArg some (by kernel_rfl))⟩
  f24 := ⟨Tryz.f136.name, by decide, Tryz.func136.trans (congrArg some (by kernel_rfl))⟩
  f25 := ⟨Tryz.f137.name, by decide, Tryz.func137.trans (congrArg some (by kernel_rfl))⟩
  f26 := ⟨Tryz.f138.name, by decide, Tryz.func138.trans (congrArg some (by kernel_rfl))⟩
  f27 := ⟨Tryz.f139.name, by decide, Tryz.func139.trans (congrArg some (by kernel_rfl))⟩
  f28 := Tryz.func140.trans (congrArg some (by kernel_rfl))
  f29 := Tryz.func141.trans (congrArg some (by kernel_rfl))
  f46 := ⟨Tryz.f157.name, by decide, Tryz.func157.trans (congrArg some (by kernel_rfl))⟩
  f47 := Tryz.func158.trans (congrArg some (by kernel_rfl))
  f48 := Tryz.func159.trans (congrArg some (by kernel_rfl))
  f49 := ⟨Tryz.f160.name, by decide, Tryz.func160.trans (congrArg some (by kernel_rfl))⟩
  f50 := ⟨Tryz.f161.name, by decide, Tryz.func161.trans (congrArg some (by kernel_rfl))⟩
  f57 := ⟨Tryz.f170.name, by decide, Tryz.func170.trans (congrArg some (by kernel_rfl))⟩
  t0 := Tryz.underlying0
  a0 := Tryz.isAgg0
  z0 := Tryz.sizeOf0
  v0 := Tryz.zeroValue0
  t3 := Tryz.underlying3
  a3 := Tryz.isAgg3
  z3 := Tryz.sizeOf3
  v3 := Tryz.zeroValue3
  t4 := Tryz.underlying4
  a4 := Tryz.isAgg4
  z4 := Tryz.sizeOf4
  v4 := Tryz.zeroValue4
  t5 := Tryz.underlying5
  a5 := Tryz.isAgg5
  z5 := Tryz.sizeOf5
  v5 := Tryz.zeroValue5
  t9 := Tryz.underlying9
  a9 := Tryz.isAgg9
  z9 := Tryz.sizeOf9
  v9 := Tryz.zeroValue9
  t22 := Tryz.underlying22
  a22 := Tryz.isAgg22
  z22 := Tryz.sizeOf22
  v22 := Tryz.zeroValue22
  t25 := Tryz.underlying88
  a25 := Tryz.isAgg88
  z25 := Tryz.sizeOf88
  v25 := Tryz.zeroValue88
  t39 := Tryz.underlying119
  a39 := Tryz.isAgg119
  z39 := Tryz.sizeOf119
  v39 := Tryz.zeroValue119
  t45 := Tryz.underlying137
  a45 := Tryz.isAgg137
  z45 := Tryz.sizeOf137
  v45 := Tryz.zeroValue137
  t46 := Tryz.underlying138
  a46 := Tryz.isAgg138
  z46 := Tryz.sizeOf138
  v46 := Tryz.zeroValue138
  t50 := Tryz.underlying30
  a50 := Tryz.isAgg30
  z50 := Tryz.sizeOf30
  v50 := Tryz.zeroValue30
  t53 := Tryz.underlying144
  a53 := Tryz.isAgg144
  z53 := Tryz.sizeOf144
  v53 := Tryz.zeroValue144
  t55 := Tryz.underlying146
  a55 := Tryz.isAgg146
  z55 := Tryz.sizeOf146
  v55 := Tryz.zeroValue146
  t66 := Tryz.underlying155
  a66 := Tryz.isAgg155
  z66 := Tryz.sizeOf155
  v66 := Tryz.zeroValue155
  t70 := Tryz.underlying159
  a70 := Tryz.isAgg159
  z70 := Tryz.sizeOf159
  v70 := Tryz.zeroValue159
  t76 := Tryz.underlying166
  a76 := Tryz.isAgg166
  z76 := Tryz.sizeOf166
  v76 := Tryz.zeroValue166
  t77 := Tryz.underlying55
  a77 := Tryz.isAgg55
  z77 := Tryz.sizeOf55
  v77 := Tryz.zeroValue55 }
end Go.Proofs
namespace Go.Av
open Go.Proofs
theorem srt58 : Go.Proofs.SlLaysF0.n6 Pg Go.Proofs.Tryz.sort58_ren := by rw [Pg_eq]; exact Go.Proofs.Tryz.sort58
theorem C_plan_Apply {a1 : List TField} {a2 : TPlan} {r : (List TField) × Int} (h : plan_Apply a1 a2 = some r) : PureC Pg 19 [.sl 587 .no (List.map E_TField a1), E_TPlan a2] (.tup [E_S_TField r.1, (V.int .i64) r.2]) := by
  refine PureC.ofF (CallSpec.of_bodyF 77 0 fn19 rfl rfl rfl (Nat.le_of_ble_eq_true rfl) ?_) (ltL_c (lt_sl rfl (ty_TField.ltm _ _)) (ltL_c (ty_TPlan.lt _ _) ltL_nil)) (lt_tup (ltL_c (ty_S_TField.lt _ _) (ltL_c ((TyOk.int .i64).lt _ _) ltL_nil)))
  replace h := Ok.of h
  unfold plan_Apply at h
  refine AWp.seq ?_
  refine W.reg [0, 1, 2] rfl ?_
  refine S.eff 3 rfl rfl (.nf (v2 := .ptr 0 [] 0) (H2 := [.cells (E_TPlan a2)]) (.box (lk 1 rfl rfl) rfl) rfl rfl) trivial ?_
  refine S.sil 4 rfl rfl (fun _ hF => .assign cNs) ?_
  refine S.sil 5 rfl rfl (fun _ hF => .assign cI) ?_
  refine S.nil ?_
  refine thenQ_n ?_
  refine AWp.wk (Wk.freeze 0 rfl rfl (.same (lk 0 rfl rfl) (.same (lk 1 rfl rfl) (.cons (lk 2 rfl rfl) rfl (.ptr .nil (by first | rfl | omega)) (.same (lk 3 rfl rfl) .nil)))) (.refl _)) ?_
  refine AWp.seq ?_
  refine AWp.seq ?_
  refine W.reg [0, 1, 2, 3] rfl ?_
  refine S.sil 16 rfl rfl (fun _ hF => .move (lk 3 rfl rfl)) ?_
  refine S.sil 17 rfl rfl (fun _ hF => .loadC sz24 ag24 (lk 3 rfl rfl) (ty_TPlan.fl a2) rfl) ?_
  obtain ⟨r3, m3, h⟩ := h.bnd
  refine S.sil 18 rfl rfl (fun _ hF => .callQ ent17 cF (.c (lk 1 rfl rfl) (V.sub.refl _) (.c (lk 0 rfl rfl) (V.sub.refl _) .nil)) (C_plan_Fits m3)) ?_
  refine S.sil 6 rfl rfl (fun _ hF => .assign (lk 0 rfl rfl)) ?_
  refine S.nil ?_
  refine thenQ_n ?_
  refine AWp.seq ?_
  refine W.reg [0, 1] rfl ?_
  refine S.sil 19 rfl rfl (fun _ hF => .move (lk 0 rfl rfl)) ?_
  refine S.sil 20 rfl rfl (fun _ hF => .neq (lk 0 rfl rfl) cI) ?_
  refine S.nil ?_
  refine thenQ_n ?_
  refine AWp.condM (lk 0 rfl rfl) h (fun c1 h => ?_) (fun c1 h => ?_)
  · skip
    refine AWp.seq ?_
    refine W.reg [0, 1, 2] rfl ?_
    refine S.sil 21 rfl rfl (fun _ hF => .move (lk 2 rfl rfl)) ?_
    refine S.sil 4 rfl rfl (fun _ hF => .assign cNs) ?_
    refine S.sil 5 rfl rfl (fun _ hF => .assign (lk 1 rfl rfl)) ?_
    refine S.nil ?_
    refine thenQ_n ?_
    refine AWp.ret ?_
    refine thenQ_r ?_
    obtain rfl := h.ret
    exact endFN rfl (Wk.selS [] .nil rfl (SelE.leaf (lk 1 rfl rfl) rfl (.nils_no _) (fun m => (ty_S_TField.lt ([] : List TField) _)) (SelE.leaf (lk 0 rfl rfl) rfl (.refl _) (fun m => ((TyOk.int .i64).lt _ _)) .nil)) .nil) (.cons (.tmp (lk 0 rfl rfl) rfl) (.cons (.tmp (lk 1 rfl rfl) rfl) .nil)) rfl rfl rfl
  · skip
    refine AWp.skip ?_
    refine thenQ_n ?_
    refine AWp.seq ?_
    refine W.reg [0, 1, 2, 3, 4, 5, 6, 7, 8] rfl ?_
    refine S.sil 23 rfl rfl (fun _ hF => .move (lk 9 rfl rfl)) ?_
    refine S.sil 24 rfl rfl (fun _ hF => .fieldAddrC lay24 rfl rfl (lk 9 rfl rfl) rfl (flL_c (show flen _ = 1 from rfl) flL_nil)) ?_
    refine S.sil 25 rfl rfl (fun _ hF => .loadC sz9 ag9 (lk 0 rfl rfl) rfl rfl) ?_
    obtain ⟨r4, m4, h⟩ := h.bnd
    refine S.sil 26 rfl rfl (fun _ hF => .callQ ent11 cF (.c (lk 2 rfl rfl) (V.sub.refl _) (.c (lk 0 rfl rfl) (V.sub.refl _) .nil)) (C_plan_Find m4)) ?_
    refine S.sil 22 rfl rfl (fun _ hF => .move (lk 0 rfl rfl)) ?_
    refine S.sil 27 rfl rfl (fun _ hF => .extract (lk 0 rfl rfl) rfl) ?_
    refine S.sil 28 rfl rfl (fun _ hF => .extract (lk 1 rfl rfl) rfl) ?_
    refine S.sil 7 rfl rfl (fun _ hF => .assign (lk 1 rfl rfl)) ?_
    refine S.sil 8 rfl rfl (fun _ hF => .assign (lk 1 rfl rfl)) ?_
    refine S.nil ?_
    refine thenQ_n ?_
    refine AWp.prune (.eq (lk 1 rfl rfl) rfl (.eq (lk 15 rfl rfl) rfl (.eq (lk 16 rfl rfl) rfl (.eq (lk 17 rfl rfl) rfl (.eq (lk 18 rfl rfl) rfl .nil))))) ?_
    refine AWp.seq ?_
    refine W.reg [0] rfl ?_
    refine S.eff 9 rfl rfl (.nf (v2 := .ptr 1 [] 0) (H2 := [.dead, .cells (.st [V.str (default : ByteArray), (V.int .i64) 0, (V.int .i64) 0, E_TCounter (default : TCounter), E_TLock (default : TLock), .nils])]) (.alloc zv43) rfl rfl) trivial ?_
    refine S.nil ?_
    refine thenQ_n ?_
    refine AWp.seq ?_
    refine AWp.seq ?_
    refine W.reg [0, 1, 2, 3, 4, 5, 6, 7, 8] rfl ?_
    refine S.sil 30 rfl rfl (fun _ hF => .move (lk 5 rfl rfl)) ?_
    refine S.sil 31 rfl rfl (fun _ hF => .fieldAddrC lay24 rfl rfl (lk 5 rfl rfl) rfl (flL_c (show flen _ = 1 from rfl) (flL_c (show flen _ = 1 from rfl) flL_nil))) ?_
    refine S.sil 32 rfl rfl (fun _ hF => .loadC sz9 ag9 (lk 0 rfl rfl) rfl rfl) ?_
    obtain ⟨r5, m5, h⟩ := h.bnd
    refine S.sil 33 rfl rfl (fun _ hF => .callQ ent11 cF (.c (lk 2 rfl rfl) (V.sub.refl _) (.c (lk 0 rfl rfl) (V.sub.refl _) .nil)) (C_plan_Find m5)) ?_
    refine S.sil 29 rfl rfl (fun _ hF => .move (lk 0 rfl rfl)) ?_
    refine S.sil 34 rfl rfl (fun _ hF => .extract (lk 0 rfl rfl) rfl) ?_
    refine S.sil 35 rfl rfl (fun _ hF => .extract (lk 1 rfl rfl) rfl) ?_
    refine S.sil 10 rfl rfl (fun _ hF => .assign (lk 1 rfl rfl)) ?_
    refine S.sil 11 rfl rfl (fun _ hF => .assign (lk 1 rfl rfl)) ?_
    refine S.nil ?_
    refine thenQ_n ?_
    refine AWp.seq ?_
    refine W.reg [0] rfl ?_
    refine S.sil 36 rfl rfl (fun _ hF => .move (lk 0 rfl rfl)) ?_
    refine S.nil ?_
    refine thenQ_n ?_
    refine AWp.condM (lk 0 rfl rfl) h (fun c2 h => ?_) (fun c2 h => ?_)
    · skip
      refine W.reg [0, 1, 2, 3, 4] rfl ?_
      refine S.sil 37 rfl rfl (fun _ hF => .move (lk 15 rfl rfl)) ?_
      refine S.sil 38 rfl rfl (fun _ hF => .move (lk 3 rfl rfl)) ?_
      obtain ⟨j6, m6, h⟩ := h.bnd
      refine S.sil 39 rfl rfl (fun _ hF => .ixS sli22 (lk 1 rfl rfl) (lk 0 rfl rfl) m6) ?_
      obtain ⟨v7, ev7, h⟩ := h.nam
      refine S.sil 40 rfl rfl (fun _ hF => .nv (.loadC sz43 ag43 (lk 0 rfl rfl) (ty_TField.fl (a1.getD j6 default)) rfl) (congrArg E_TField ev7.symm)) ?_
      refine S.effN rfl rfl (.nf (H2 := [.dead, .cells (E_TField v7)]) (.storeP sz43 (lk 14 rfl rfl) (lk 0 rfl rfl) rfl (.refl _) rfl .nil (by first | rfl | omega) .nil (ty_TField.fl v7) (fl_st (flL_c (show flen _ = 1 from rfl) (flL_c (show flen _ = 1 from rfl) (flL_c (show flen _ = 1 from rfl) (flL_c (ty_TCounter.fl (default : TCounter)) (flL_c (ty_TLock.fl (default : TLock)) (flL_c (show flen _ = 1 from rfl) flL_nil))))))) rfl) rfl rfl) trivial ?_
      refine S.nil ?_
      refine thenQ_n ?_
      refine AWp.prune (.eq (lk 14 rfl rfl) rfl (.eq (lk 15 rfl rfl) rfl (.eq (lk 16 rfl rfl) rfl (.eq (lk 17 rfl rfl) rfl (.eq (lk 18 rfl rfl) rfl (.eq (lk 19 rfl rfl) rfl .nil)))))) ?_
      refine AWp.seq ?_
      refine W.regD [0, 1, 2, 3, 4, 5, 6, 7, 8, 9, 10, 11] mixed ?_
      refine S.sil 42 rfl rfl (fun _ hF => .move (lk 5 rfl rfl)) ?_
      refine S.sil 43 rfl rfl (fun _ hF => .move (lk 2 rfl rfl)) ?_
      obtain ⟨j8, m8, h⟩ := h.bnd
      refine S.sil 44 rfl rfl (fun _ hF => .ixS sli22 (lk 1 rfl rfl) (lk 0 rfl rfl) m8) ?_
      obtain ⟨v9, ev9, h⟩ := h.nam
      refine S.sil 45 rfl rfl (fun _ hF => .nv (.loadC sz43 ag43 (lk 0 rfl rfl) (ty_TField.fl (a1.getD j8 default)) rfl) (congrArg E_TField ev9.symm)) ?_
      refine S.qui 46 rfl rfl (fun _ => .loadP sz43 ag43 (lk 4 rfl rfl) rfl .nil (by first | rfl | omega) (ty_TField.fl v7) rfl) ?_
      refine S.sil 47 rfl rfl (fun _ hF => .loadC sz24 ag24 (lk 9 rfl rfl) (ty_TPlan.fl a2) rfl) ?_
      obtain ⟨r10, m10, h⟩ := h.bnd
      refine S.new 48 rfl rfl (.callN ent56 cF [] (C_plan_change_own m10) .nil .nil (ltL_c (ty_TField.lt _ _) (ltL_c (ty_TField.lt _ _) (ltL_c (ty_TPlan.lt _ _) ltL_nil))) (.c (lk 2 rfl rfl) (vsubr (V.sub.refl _) (ty_TField.lt _ 0)) (.c (lk 1 rfl rfl) (vsubr (V.sub.refl _) (ty_TField.lt _ 0)) (.c (lk 0 rfl rfl) (vsubr (V.sub.refl _) (ty_TPlan.lt _ 0)) .nil))) (ren_tup (renL_c rfl (renL_c ((TyOk.int .i64).cl _ _) rfl))) (mapc (ren_buf ty_TField _) rfl) rfl) trivial ?_
      refine S.sil 41 rfl rfl (fun _ hF => .move (lk 0 rfl rfl)) ?_
      refine S.sil 49 rfl rfl (fun _ hF => .extract (lk 0 rfl rfl) rfl) ?_
      refine S.sil 50 rfl rfl (fun _ hF => .extract (lk 1 rfl rfl) rfl) ?_
      refine S.sil 12 rfl rfl (fun _ hF => .assign (lk 1 rfl rfl)) ?_
      refine S.sil 13 rfl rfl (fun _ hF => .assign (lk 1 rfl rfl)) ?_
      refine S.nilD (by kernel_rfl) ?_
      refine thenQ_n ?_
      refine AWp.prune (.eq (lk 0 rfl rfl) rfl (.eq (lk 1 rfl rfl) rfl (.eq (lk 14 rfl rfl) rfl (.eq (lk 15 rfl rfl) rfl (.eq (lk 16 rfl rfl) rfl (.eq (lk 17 rfl rfl) rfl .nil)))))) ?_
      refine AWp.seq ?_
      refine AWp.seq ?_
      refine W.reg [0, 1] rfl ?_
      refine S.sil 51 rfl rfl (fun _ hF => .move (lk 0 rfl rfl)) ?_
      refine S.sil 52 rfl rfl (fun _ hF => .neq (lk 0 rfl rfl) cI) ?_
      refine S.nil ?_
      refine thenQ_n ?_
      refine AWp.condM (lk 0 rfl rfl) h (fun c3 h => ?_) (fun c3 h => ?_)
      · skip
        refine AWp.seq ?_
        refine W.reg [0, 1, 2] rfl ?_
        refine S.sil 53 rfl rfl (fun _ hF => .move (lk 2 rfl rfl)) ?_
        refine S.sil 4 rfl rfl (fun _ hF => .assign cNs) ?_
        refine S.sil 5 rfl rfl (fun _ hF => .assign (lk 1 rfl rfl)) ?_
        refine S.nil ?_
        refine thenQ_n ?_
        refine AWp.ret ?_
        refine thenQ_r ?_
        obtain rfl := h.ret
        exact endFN rfl (Wk.selS [] .nil rfl (SelE.leaf (lk 1 rfl rfl) rfl (.nils_no _) (fun m => (ty_S_TField.lt ([] : List TField) _)) (SelE.leaf (lk 0 rfl rfl) rfl (.refl _) (fun m => ((TyOk.int .i64).lt _ _)) .nil)) .nil) (.cons (.tmp (lk 0 rfl rfl) rfl) (.cons (.tmp (lk 1 rfl rfl) rfl) .nil)) rfl rfl rfl
      · skip
        refine AWp.skip ?_
        refine thenQ_n ?_
        refine AWp.seq ?_
        refine AWp.seq ?_
        refine W.reg [0, 1, 2] rfl ?_
        refine S.sil 54 rfl rfl (fun _ hF => .move (lk 7 rfl rfl)) ?_
        refine S.sil 55 rfl rfl (fun _ hF => .lenT sli22 (lk 0 rfl rfl) (vsub rfl (.refl _))) ?_
        refine S.sil 56 rfl rfl (fun _ hF => .move cI) ?_
        refine S.nil ?_
        refine thenQ_n ?_
        refine AWp.cutX (fun x13 => ⟨[(12, .slo 587 0 [] 0 0 x13.length 1), (5, (V.int .i64) 0), (4, .nils)], [.buf 587 (List.map E_TField x13)]⟩) nc_then h (fun q11 hq11 => ?_) (fun x13 h => ?_)
        · refine AWp.block ?_
          refine AWp.loopT (fun s12 => ⟨[(56, (V.int .i64) s12.1), (55, (V.int .i64) (a1.length : Int)), (54, .sl 587 .no (List.map E_TField a1)), (12, .slo 587 0 [] 0 0 s12.2.length 1), (5, (V.int .i64) 0), (4, .nils), (3, .cptr (E_TPlan a2))], [.buf 587 (List.map E_TField s12.2)]⟩) hq11 (Wk.selS [2] (by decide) rfl (SelE.leaf (lk 0 rfl rfl) rfl (.refl _) (fun m => ((TyOk.int .i64).lt _ _)) (SelE.leaf (lk 1 rfl rfl) rfl (.refl _) (fun m => ((TyOk.int .i64).lt _ _)) (SelE.leaf (lk 2 rfl rfl) rfl (.refl _) (fun m => (lt_sl rfl (ty_TField.ltm _ _))) (SelE.spec (lk 6 rfl rfl) rfl (.slo (by first | rfl | simp)) rfl rfl (SelE.leaf (lk 7 rfl rfl) rfl (.refl _) (fun m => ((TyOk.int .i64).lt _ _)) (SelE.leaf (lk 8 rfl rfl) rfl (.refl _) (fun m => rfl) (SelE.leaf (lk 9 rfl rfl) rfl (.refl _) (fun m => (lt_cptr (ty_TPlan.lt _ _))) .nil))))))) (.cons (lt_buf ty_TField) rfl ⟨rfl, RSubL.leafr ty_TField _ rfl⟩ .nil)) (fun _ s12 h11 => ?_)
          rw [plan_Apply_L1] at h11
          refine AWp.seq ?_
          refine W.reg [0] rfl ?_
          refine S.sil 57 rfl rfl (fun _ hF => .lss (lk 0 rfl rfl) (lk 1 rfl rfl)) ?_
          refine S.nil ?_
          refine thenQ_n ?_
          refine AWp.seq ?_
          refine AWp.condM (lk 0 rfl rfl) h11 (fun c4 h11 => ?_) (fun c4 h11 => ?_)
          · skip
            refine AWp.skip ?_
            refine thenQ_n ?_
            refine AWp.seq ?_
            refine AWp.block ?_
            refine AWp.seq ?_
            refine W.reg [0, 1, 2, 3] rfl ?_
            obtain ⟨j14, m14, h11⟩ := h11.bnd
            refine S.sil 58 rfl rfl (fun _ hF => .ixS sli22 (lk 3 rfl rfl) (lk 1 rfl rfl) m14) ?_
            obtain ⟨v15, ev15, h11⟩ := h11.nam
            refine S.sil 59 rfl rfl (fun _ hF => .nv (.loadC sz43 ag43 (lk 0 rfl rfl) (ty_TField.fl (a1.getD j14 default)) rfl) (congrArg E_TField ev15.symm)) ?_
            refine S.eff 15 rfl rfl (.nf (v2 := .ptr 1 [] 0) (H2 := [.buf 587 (List.map E_TField s12.2), .cells (.st [V.str (default : ByteArray), (V.int .i64) 0, (V.int .i64) 0, E_TCounter (default : TCounter), E_TLock (default : TLock), .nils])]) (.alloc zv43) rfl rfl) trivial ?_
            refine S.effN rfl rfl (.nf (H2 := [.buf 587 (List.map E_TField s12.2), .cells (E_TField v15)]) (.storeP sz43 (lk 0 rfl rfl) (lk 1 rfl rfl) rfl (.refl _) rfl .nil (by first | rfl | omega) .nil (ty_TField.fl v15) (fl_st (flL_c (show flen _ = 1 from rfl) (flL_c (show flen _ = 1 from rfl) (flL_c (show flen _ = 1 from rfl) (flL_c (ty_TCounter.fl (default : TCounter)) (flL_c (ty_TLock.fl (default : TLock)) (flL_c (show flen _ = 1 from rfl) flL_nil))))))) rfl) rfl rfl) trivial ?_
            refine S.nil ?_
            refine thenQ_n ?_
            refine AWp.seq ?_
            refine W.reg [0, 1, 2, 3, 4] rfl ?_
            refine S.sil 60 rfl rfl (fun _ hF => .loadC sz24 ag24 (lk 10 rfl rfl) (ty_TPlan.fl a2) rfl) ?_
            refine S.sil 61 rfl rfl (fun _ hF => .fieldAddr lay43 rfl rfl (lk 1 rfl rfl)) ?_
            refine S.qui 62 rfl rfl (fun _ => .loadP sz9 ag9 (lk 0 rfl rfl) rfl (.st rfl flL_nil .nil) (by first | rfl | omega) rfl rfl) ?_
            obtain ⟨r16, m16, h11⟩ := h11.bnd
            refine S.sil 63 rfl rfl (fun _ hF => .callQ ent12 cF (.c (lk 2 rfl rfl) (V.sub.refl _) (.c (lk 0 rfl rfl) (V.sub.refl _) .nil)) (C_plan_Touched m16)) ?_
            refine S.sil 64 rfl rfl (fun _ hF => .not (lk 0 rfl rfl)) ?_
            refine S.nil ?_
            refine thenQ_n ?_
            refine AWp.condM (lk 0 rfl rfl) h11 (fun c5 h11 => ?_) (fun c5 h11 => ?_)
            · skip
              refine AWp.seq ?_
              refine W.reg [0, 1, 2, 3, 4] rfl ?_
              refine S.sil 65 rfl rfl (fun _ hF => .fieldAddr lay43 rfl rfl (lk 5 rfl rfl)) ?_
              refine S.qui 66 rfl rfl (fun _ => .loadP sz41 ag41 (lk 0 rfl rfl) rfl (.st rfl (flL_c (show flen _ = 1 from rfl) (flL_c (show flen _ = 1 from rfl) (flL_c (show flen _ = 1 from rfl) (flL_c (ty_TCounter.fl v15.Counter) (flL_c (ty_TLock.fl v15.Lock) flL_nil))))) .nil) (by first | rfl | omega) rfl rfl) ?_
              obtain ⟨r17, m17, h11⟩ := h11.bnd
              refine S.sil 67 rfl rfl (fun _ hF => .callQ ent57 cF (.c (lk 0 rfl rfl) (V.sub.refl _) .nil) (C_clone_57 m17)) ?_
              refine S.sil 68 rfl rfl (fun _ hF => .fieldAddr lay43 rfl rfl (lk 8 rfl rfl)) ?_
              obtain ⟨v18, ev18, h11⟩ := h11.nam
              refine S.effN rfl rfl (.nf (H2 := [.buf 587 (List.map E_TField s12.2), .cells (E_TField v18)]) (.storeP sz41 (lk 0 rfl rfl) (lk 1 rfl rfl) rfl (.refl _) rfl (.st rfl (flL_c (show flen _ = 1 from rfl) (flL_c (show flen _ = 1 from rfl) (flL_c (show flen _ = 1 from rfl) (flL_c (ty_TCounter.fl v15.Counter) (flL_c (ty_TLock.fl v15.Lock) flL_nil))))) .nil) (by first | rfl | omega) (.st rfl .nil rfl) rfl rfl (congrArg (fun z => ([.buf 587 (List.map E_TField s12.2), AObj.cells (E_TField z)] : List AObj)) ev18.symm)) rfl rfl) trivial ?_
              refine S.nil ?_
              refine thenQ_n ?_
              refine W.reg [0, 1, 2, 3, 4] rfl ?_
              refine S.sil 69 rfl rfl (fun _ hF => .move (lk 16 rfl rfl)) ?_
              refine S.qui 70 rfl rfl (fun _ => .loadP sz43 ag43 (lk 10 rfl rfl) rfl .nil (by first | rfl | omega) (ty_TField.fl v18) rfl) ?_
              refine S.sil 71 rfl rfl (fun _ hF => .buildSliceW sli22 zv43 rfl rfl (by decide) (.cons (lk 0 rfl rfl) rfl (.refl _) (ty_TField.fl v18) .nil)) ?_
              obtain ⟨l19, m19, h11⟩ := h11.bnd
              refine S.eff 72 rfl rfl (.nf (v2 := .slo 587 2 [] 0 0 l19.length 1) (H2 := [.dead, .cells (E_TField v18), .buf 587 (List.map E_TField l19)]) (.appOwnT sli22 und22 zv43 rfl (by decide) (lk 2 rfl rfl) rfl (by first | rfl | simp) (lk 0 rfl rfl) Rd.sl m19 rfl) rfl rfl) trivial ?_
              refine S.sil 12 rfl rfl (fun _ hF => .assign (lk 0 rfl rfl)) ?_
              refine S.nil ?_
              refine blockQ_n ?_
              refine thenQ_n ?_
              refine W.reg [0, 1] rfl ?_
              refine S.sil 73 rfl rfl (fun _ hF => .add (lk 18 rfl rfl) cI) ?_
              refine S.sil 56 rfl rfl (fun _ hF => .move (lk 0 rfl rfl)) ?_
              refine S.nil ?_
              refine thenQ_n ?_
              exact ⟨_, h11.ret, (Wk.selS [2] (by decide) rfl (SelE.leaf (lk 0 rfl rfl) rfl (.refl _) (fun m => ((TyOk.int .i64).lt _ _)) (SelE.leaf (lk 21 rfl rfl) rfl (.refl _) (fun m => ((TyOk.int .i64).lt _ _)) (SelE.leaf (lk 22 rfl rfl) rfl (.refl _) (fun m => (lt_sl rfl (ty_TField.ltm _ _))) (SelE.spec (lk 2 rfl rfl) rfl (.slo (by first | rfl | simp)) rfl rfl (SelE.leaf (lk 24 rfl rfl) rfl (.refl _) (fun m => ((TyOk.int .i64).lt _ _)) (SelE.leaf (lk 25 rfl rfl) rfl (.refl _) (fun m => rfl) (SelE.leaf (lk 26 rfl rfl) rfl (.refl _) (fun m => (lt_cptr (ty_TPlan.lt _ _))) .nil))))))) (.cons (lt_buf ty_TField) rfl ⟨rfl, RSubL.leafr ty_TField _ rfl⟩ .nil))⟩
            · skip
              refine AWp.skip ?_
              refine blockQ_n ?_
              refine thenQ_n ?_
              refine W.reg [0, 1] rfl ?_
              refine S.sil 73 rfl rfl (fun _ hF => .add (lk 9 rfl rfl) cI) ?_
              refine S.sil 56 rfl rfl (fun _ hF => .move (lk 0 rfl rfl)) ?_
              refine S.nil ?_
              refine thenQ_n ?_
              exact ⟨_, h11.ret, (Wk.selS [0] (by decide) rfl (SelE.leaf (lk 0 rfl rfl) rfl (.refl _) (fun m => ((TyOk.int .i64).lt _ _)) (SelE.leaf (lk 12 rfl rfl) rfl (.refl _) (fun m => ((TyOk.int .i64).lt _ _)) (SelE.leaf (lk 13 rfl rfl) rfl (.refl _) (fun m => (lt_sl rfl (ty_TField.ltm _ _))) (SelE.spec (lk 14 rfl rfl) rfl (.slo (by first | rfl | simp)) rfl rfl (SelE.leaf (lk 15 rfl rfl) rfl (.refl _) (fun m => ((TyOk.int .i64).lt _ _)) (SelE.leaf (lk 16 rfl rfl) rfl (.refl _) (fun m => rfl) (SelE.leaf (lk 17 rfl rfl) rfl (.refl _) (fun m => (lt_cptr (ty_TPlan.lt _ _))) .nil))))))) (.cons (lt_buf ty_TField) rfl ⟨rfl, RSubL.leafr ty_TField _ rfl⟩ .nil))⟩
          · skip
            refine AWp.exit ?_
            refine thenQ_x ?_
            refine thenQ_x ?_
            refine blockQ_x ?_
            refine thenQ_n ?_
            exact ⟨_, h11.ret, (Wk.selS [0] (by decide) rfl (SelE.spec (lk 4 rfl rfl) rfl (.slo (by first | rfl | simp)) rfl rfl (SelE.leaf (lk 5 rfl rfl) rfl (.refl _) (fun m => ((TyOk.int .i64).lt _ _)) (SelE.leaf (lk 6 rfl rfl) rfl (.refl _) (fun m => rfl) .nil))) (.cons (lt_buf ty_TField) rfl ⟨rfl, RSubL.leafr ty_TField _ rfl⟩ .nil))⟩
        · skip
          refine thenQ_n ?_
          refine AWp.seq ?_
          refine W.reg [0, 1] rfl ?_
          refine S.sil 74 rfl rfl (fun _ hF => .move (lk 0 rfl rfl)) ?_
          obtain ⟨l20, m20, h⟩ := h.bnd
          refine S.eff 75 rfl rfl (.nf (H2 := [.buf 587 (List.map E_TField l20)]) (.sortFunc (ρ := Go.Proofs.Tryz.sort58_ren) srt58 rfl rfl ag43 sz43 ty_TField planCmp_swo ent58 ent59 ltL_nil (fun x y => C_plan_Apply_1 (plan_Apply_1_eq x y)) cF (lk 0 rfl rfl) cF rfl (by first | rfl | simp) m20 rfl) rfl rfl) trivial ?_
          refine S.nil ?_
          refine thenQ_n ?_
          refine AWp.seq ?_
          refine W.reg [0, 1, 2] rfl ?_
          refine S.sil 76 rfl rfl (fun _ hF => .move (lk 2 rfl rfl)) ?_
          refine S.sil 4 rfl rfl (fun _ hF => .assign (lk 0 rfl rfl)) ?_
          refine S.sil 5 rfl rfl (fun _ hF => .assign cI) ?_
          refine S.nil ?_
          refine thenQ_n ?_
          refine AWp.ret ?_
          refine endF_wk (Wk.freeze 0 rfl rfl (.same (lk 0 rfl rfl) (.cons (lk 1 rfl rfl) rfl (.slo (by first | rfl | simp [(sort_len planCmp_swo m20)])) (.same (lk 0 rfl rfl) (.same (lk 1 rfl rfl) .nil)))) (.refl _)) ?_
          obtain rfl := h.ret
          exact endFN rfl (Wk.selS [] .nil rfl (SelE.leaf (lk 1 rfl rfl) rfl (.refl _) (fun m => (ty_S_TField.lt _ _)) (SelE.leaf (lk 0 rfl rfl) rfl (.refl _) (fun m => ((TyOk.int .i64).lt _ _)) .nil)) .nil) (.cons (.tmp (lk 0 rfl rfl) rfl) (.cons (.tmp (lk 1 rfl rfl) rfl) .nil)) rfl rfl rfl
    · skip
      refine AWp.skip ?_
      refine thenQ_n ?_
      refine AWp.prune (.eq (lk 10 rfl rfl) rfl (.eq (lk 11 rfl rfl) rfl (.eq (lk 12 rfl rfl) rfl (.eq (lk 13 rfl rfl) rfl (.eq (lk 14 rfl rfl) rfl (.eq (lk 15 rfl rfl) rfl .nil)))))) ?_
      refine AWp.seq ?_
      refine W.regD [0, 1, 2, 3, 4, 5, 6, 7, 8, 9, 10, 11] mixed ?_
      refine S.sil 42 rfl rfl (fun _ hF => .move (lk 5 rfl rfl)) ?_
      refine S.sil 43 rfl rfl (fun _ hF => .move (lk 2 rfl rfl)) ?_
      obtain ⟨j21, m21, h⟩ := h.bnd
      refine S.sil 44 rfl rfl (fun _ hF => .ixS sli22 (lk 1 rfl rfl) (lk 0 rfl rfl) m21) ?_
      obtain ⟨v22, ev22, h⟩ := h.nam
      refine S.sil 45 rfl rfl (fun _ hF => .nv (.loadC sz43 ag43 (lk 0 rfl rfl) (ty_TField.fl (a1.getD j21 default)) rfl) (congrArg E_TField ev22.symm)) ?_
      refine S.qui 46 rfl rfl (fun _ => .loadP sz43 ag43 (lk 4 rfl rfl) rfl .nil (by first | rfl | omega) (fl_st (flL_c (show flen _ = 1 from rfl) (flL_c (show flen _ = 1 from rfl) (flL_c (show flen _ = 1 from rfl) (flL_c (ty_TCounter.fl (default : TCounter)) (flL_c (ty_TLock.fl (default : TLock)) (flL_c (show flen _ = 1 from rfl) flL_nil))))))) rfl) ?_
      refine S.sil 47 rfl rfl (fun _ hF => .loadC sz24 ag24 (lk 9 rfl rfl) (ty_TPlan.fl a2) rfl) ?_
      obtain ⟨r23, m23, h⟩ := h.bnd
      refine S.new 48 rfl rfl (.callN ent56 cF [] (C_plan_change_own m23) .nil .nil (ltL_c (ty_TField.lt _ _) (ltL_c (ty_TField.lt _ _) (ltL_c (ty_TPlan.lt _ _) ltL_nil))) (.c (lk 2 rfl rfl) (vsubr (V.sub.refl _) (ty_TField.lt _ 0)) (.c (lk 1 rfl rfl) (vsubr (vsub rfl (.st (.cons (.refl _) (.cons (.refl _) (.cons (.refl _) (.cons (.refl _) (.cons (.refl _) (.cons (.nils_no _) .nil)))))))) (ty_TField.lt _ 0)) (.c (lk 0 rfl rfl) (vsubr (V.sub.refl _) (ty_TPlan.lt _ 0)) .nil))) (ren_tup (renL_c rfl (renL_c ((TyOk.int .i64).cl _ _) rfl))) (mapc (ren_buf ty_TField _) rfl) rfl) trivial ?_
      refine S.sil 41 rfl rfl (fun _ hF => .move (lk 0 rfl rfl)) ?_
      refine S.sil 49 rfl rfl (fun _ hF => .extract (lk 0 rfl rfl) rfl) ?_
      refine S.sil 50 rfl rfl (fun _ hF => .extract (lk 1 rfl rfl) rfl) ?_
      refine S.sil 12 rfl rfl (fun _ hF => .assign (lk 1 rfl rfl)) ?_
      refine S.sil 13 rfl rfl (fun _ hF => .assign (lk 1 rfl rfl)) ?_
      refine S.nilD (by kernel_rfl) ?_
      refine thenQ_n ?_
      refine AWp.prune (.eq (lk 0 rfl rfl) rfl (.eq (lk 1 rfl rfl) rfl (.eq (lk 14 rfl rfl) rfl (.eq (lk 15 rfl rfl) rfl (.eq (lk 16 rfl rfl) rfl (.eq (lk 17 rfl rfl) rfl .nil)))))) ?_
      refine AWp.seq ?_
      refine AWp.seq ?_
      refine W.reg [0, 1] rfl ?_
      refine S.sil 51 rfl rfl (fun _ hF => .move (lk 0 rfl rfl)) ?_
      refine S.sil 52 rfl rfl (fun _ hF => .neq (lk 0 rfl rfl) cI) ?_
      refine S.nil ?_
      refine thenQ_n ?_
      refine AWp.condM (lk 0 rfl rfl) h (fun c6 h => ?_) (fun c6 h => ?_)
      · skip
        refine AWp.seq ?_
        refine W.reg [0, 1, 2] rfl ?_
        refine S.sil 53 rfl rfl (fun _ hF => .move (lk 2 rfl rfl)) ?_
        refine S.sil 4 rfl rfl (fun _ hF => .assign cNs) ?_
        refine S.sil 5 rfl rfl (fun _ hF => .assign (lk 1 rfl rfl)) ?_
        refine S.nil ?_
        refine thenQ_n ?_
        refine AWp.ret ?_
        refine thenQ_r ?_
        obtain rfl := h.ret
        exact endFN rfl (Wk.selS [] .nil rfl (SelE.leaf (lk 1 rfl rfl) rfl (.nils_no _) (fun m => (ty_S_TField.lt ([] : List TField) _)) (SelE.leaf (lk 0 rfl rfl) rfl (.refl _) (fun m => ((TyOk.int .i64).lt _ _)) .nil)) .nil) (.cons (.tmp (lk 0 rfl rfl) rfl) (.cons (.tmp (lk 1 rfl rfl) rfl) .nil)) rfl rfl rfl
      · skip
        refine AWp.skip ?_
        refine thenQ_n ?_
        refine AWp.seq ?_
        refine AWp.seq ?_
        refine W.reg [0, 1, 2] rfl ?_
        refine S.sil 54 rfl rfl (fun _ hF => .move (lk 7 rfl rfl)) ?_
        refine S.sil 55 rfl rfl (fun _ hF => .lenT sli22 (lk 0 rfl rfl) (vsub rfl (.refl _))) ?_
        refine S.sil 56 rfl rfl (fun _ hF => .move cI) ?_
        refine S.nil ?_
        refine thenQ_n ?_
        refine AWp.cutX (fun x26 => ⟨[(12, .slo 587 0 [] 0 0 x26.length 1), (5, (V.int .i64) 0), (4, .nils)], [.buf 587 (List.map E_TField x26)]⟩) nc_then h (fun q24 hq24 => ?_) (fun x26 h => ?_)
        · refine AWp.block ?_
          refine AWp.loopT (fun s25 => ⟨[(56, (V.int .i64) s25.1), (55, (V.int .i64) (a1.length : Int)), (54, .sl 587 .no (List.map E_TField a1)), (12, .slo 587 0 [] 0 0 s25.2.length 1), (5, (V.int .i64) 0), (4, .nils), (3, .cptr (E_TPlan a2))], [.buf 587 (List.map E_TField s25.2)]⟩) hq24 (Wk.selS [2] (by decide) rfl (SelE.leaf (lk 0 rfl rfl) rfl (.refl _) (fun m => ((TyOk.int .i64).lt _ _)) (SelE.leaf (lk 1 rfl rfl) rfl (.refl _) (fun m => ((TyOk.int .i64).lt _ _)) (SelE.leaf (lk 2 rfl rfl) rfl (.refl _) (fun m => (lt_sl rfl (ty_TField.ltm _ _))) (SelE.spec (lk 6 rfl rfl) rfl (.slo (by first | rfl | simp)) rfl rfl (SelE.leaf (lk 7 rfl rfl) rfl (.refl _) (fun m => ((TyOk.int .i64).lt _ _)) (SelE.leaf (lk 8 rfl rfl) rfl (.refl _) (fun m => rfl) (SelE.leaf (lk 9 rfl rfl) rfl (.refl _) (fun m => (lt_cptr (ty_TPlan.lt _ _))) .nil))))))) (.cons (lt_buf ty_TField) rfl ⟨rfl, RSubL.leafr ty_TField _ rfl⟩ .nil)) (fun _ s25 h24 => ?_)
          rw [plan_Apply_L2] at h24
          refine AWp.seq ?_
          refine W.reg [0] rfl ?_
          refine S.sil 57 rfl rfl (fun _ hF => .lss (lk 0 rfl rfl) (lk 1 rfl rfl)) ?_
          refine S.nil ?_
          refine thenQ_n ?_
          refine AWp.seq ?_
          refine AWp.condM (lk 0 rfl rfl) h24 (fun c7 h24 => ?_) (fun c7 h24 => ?_)
          · skip
            refine AWp.skip ?_
            refine thenQ_n ?_
            refine AWp.seq ?_
            refine AWp.block ?_
            refine AWp.seq ?_
            refine W.reg [0, 1, 2, 3] rfl ?_
            obtain ⟨j27, m27, h24⟩ := h24.bnd
            refine S.sil 58 rfl rfl (fun _ hF => .ixS sli22 (lk 3 rfl rfl) (lk 1 rfl rfl) m27) ?_
            obtain ⟨v28, ev28, h24⟩ := h24.nam
            refine S.sil 59 rfl rfl (fun _ hF => .nv (.loadC sz43 ag43 (lk 0 rfl rfl) (ty_TField.fl (a1.getD j27 default)) rfl) (congrArg E_TField ev28.symm)) ?_
            refine S.eff 15 rfl rfl (.nf (v2 := .ptr 1 [] 0) (H2 := [.buf 587 (List.map E_TField s25.2), .cells (.st [V.str (default : ByteArray), (V.int .i64) 0, (V.int .i64) 0, E_TCounter (default : TCounter), E_TLock (default : TLock), .nils])]) (.alloc zv43) rfl rfl) trivial ?_
            refine S.effN rfl rfl (.nf (H2 := [.buf 587 (List.map E_TField s25.2), .cells (E_TField v28)]) (.storeP sz43 (lk 0 rfl rfl) (lk 1 rfl rfl) rfl (.refl _) rfl .nil (by first | rfl | omega) .nil (ty_TField.fl v28) (fl_st (flL_c (show flen _ = 1 from rfl) (flL_c (show flen _ = 1 from rfl) (flL_c (show flen _ = 1 from rfl) (flL_c (ty_TCounter.fl (default : TCounter)) (flL_c (ty_TLock.fl (default : TLock)) (flL_c (show flen _ = 1 from rfl) flL_nil))))))) rfl) rfl rfl) trivial ?_
            refine S.nil ?_
            refine thenQ_n ?_
            refine AWp.seq ?_
            refine W.reg [0, 1, 2, 3, 4] rfl ?_
            refine S.sil 60 rfl rfl (fun _ hF => .loadC sz24 ag24 (lk 10 rfl rfl) (ty_TPlan.fl a2) rfl) ?_
            refine S.sil 61 rfl rfl (fun _ hF => .fieldAddr lay43 rfl rfl (lk 1 rfl rfl)) ?_
            refine S.qui 62 rfl rfl (fun _ => .loadP sz9 ag9 (lk 0 rfl rfl) rfl (.st rfl flL_nil .nil) (by first | rfl | omega) rfl rfl) ?_
            obtain ⟨r29, m29, h24⟩ := h24.bnd
            refine S.sil 63 rfl rfl (fun _ hF => .callQ ent12 cF (.c (lk 2 rfl rfl) (V.sub.refl _) (.c (lk 0 rfl rfl) (V.sub.refl _) .nil)) (C_plan_Touched m29)) ?_
            refine S.sil 64 rfl rfl (fun _ hF => .not (lk 0 rfl rfl)) ?_
            refine S.nil ?_
            refine thenQ_n ?_
            refine AWp.condM (lk 0 rfl rfl) h24 (fun c8 h24 => ?_) (fun c8 h24 => ?_)
            · skip
              refine AWp.seq ?_
              refine W.reg [0, 1, 2, 3, 4] rfl ?_
              refine S.sil 65 rfl rfl (fun _ hF => .fieldAddr lay43 rfl rfl (lk 5 rfl rfl)) ?_
              refine S.qui 66 rfl rfl (fun _ => .loadP sz41 ag41 (lk 0 rfl rfl) rfl (.st rfl (flL_c (show flen _ = 1 from rfl) (flL_c (show flen _ = 1 from rfl) (flL_c (show flen _ = 1 from rfl) (flL_c (ty_TCounter.fl v28.Counter) (flL_c (ty_TLock.fl v28.Lock) flL_nil))))) .nil) (by first | rfl | omega) rfl rfl) ?_
              obtain ⟨r30, m30, h24⟩ := h24.bnd
              refine S.sil 67 rfl rfl (fun _ hF => .callQ ent57 cF (.c (lk 0 rfl rfl) (V.sub.refl _) .nil) (C_clone_57 m30)) ?_
              refine S.sil 68 rfl rfl (fun _ hF => .fieldAddr lay43 rfl rfl (lk 8 rfl rfl)) ?_
              obtain ⟨v31, ev31, h24⟩ := h24.nam
              refine S.effN rfl rfl (.nf (H2 := [.buf 587 (List.map E_TField s25.2), .cells (E_TField v31)]) (.storeP sz41 (lk 0 rfl rfl) (lk 1 rfl rfl) rfl (.refl _) rfl (.st rfl (flL_c (show flen _ = 1 from rfl) (flL_c (show flen _ = 1 from rfl) (flL_c (show flen _ = 1 from rfl) (flL_c (ty_TCounter.fl v28.Counter) (flL_c (ty_TLock.fl v28.Lock) flL_nil))))) .nil) (by first | rfl | omega) (.st rfl .nil rfl) rfl rfl (congrArg (fun z => ([.buf 587 (List.map E_TField s25.2), AObj.cells (E_TField z)] : List AObj)) ev31.symm)) rfl rfl) trivial ?_
              refine S.nil ?_
              refine thenQ_n ?_
              refine W.reg [0, 1, 2, 3, 4] rfl ?_
              refine S.sil 69 rfl rfl (fun _ hF => .move (lk 16 rfl rfl)) ?_
              refine S.qui 70 rfl rfl (fun _ => .loadP sz43 ag43 (lk 10 rfl rfl) rfl .nil (by first | rfl | omega) (ty_TField.fl v31) rfl) ?_
              refine S.sil 71 rfl rfl (fun _ hF => .buildSliceW sli22 zv43 rfl rfl (by decide) (.cons (lk 0 rfl rfl) rfl (.refl _) (ty_TField.fl v31) .nil)) ?_
              obtain ⟨l32, m32, h24⟩ := h24.bnd
              refine S.eff 72 rfl rfl (.nf (v2 := .slo 587 2 [] 0 0 l32.length 1) (H2 := [.dead, .cells (E_TField v31), .buf 587 (List.map E_TField l32)]) (.appOwnT sli22 und22 zv43 rfl (by decide) (lk 2 rfl rfl) rfl (by first | rfl | simp) (lk 0 rfl rfl) Rd.sl m32 rfl) rfl rfl) trivial ?_
              refine S.sil 12 rfl rfl (fun _ hF => .assign (lk 0 rfl rfl)) ?_
              refine S.nil ?_
              refine blockQ_n ?_
              refine thenQ_n ?_
              refine W.reg [0, 1] rfl ?_
              refine S.sil 73 rfl rfl (fun _ hF => .add (lk 18 rfl rfl) cI) ?_
              refine S.sil 56 rfl rfl (fun _ hF => .move (lk 0 rfl rfl)) ?_
              refine S.nil ?_
              refine thenQ_n ?_
              exact ⟨_, h24.ret, (Wk.selS [2] (by decide) rfl (SelE.leaf (lk 0 rfl rfl) rfl (.refl _) (fun m => ((TyOk.int .i64).lt _ _)) (SelE.leaf (lk 21 rfl rfl) rfl (.refl _) (fun m => ((TyOk.int .i64).lt _ _)) (SelE.leaf (lk 22 rfl rfl) rfl (.refl _) (fun m => (lt_sl rfl (ty_TField.ltm _ _))) (SelE.spec (lk 2 rfl rfl) rfl (.slo (by first | rfl | simp)) rfl rfl (SelE.leaf (lk 24 rfl rfl) rfl (.refl _) (fun m => ((TyOk.int .i64).lt _ _)) (SelE.leaf (lk 25 rfl rfl) rfl (.refl _) (fun m => rfl) (SelE.leaf (lk 26 rfl rfl) rfl (.refl _) (fun m => (lt_cptr (ty_TPlan.lt _ _))) .nil))))))) (.cons (lt_buf ty_TField) rfl ⟨rfl, RSubL.leafr ty_TField _ rfl⟩ .nil))⟩
            · skip
              refine AWp.skip ?_
              refine blockQ_n ?_
              refine thenQ_n ?_
              refine W.reg [0, 1] rfl ?_
              refine S.sil 73 rfl rfl (fun _ hF => .add (lk 9 rfl rfl) cI) ?_
              refine S.sil 56 rfl rfl (fun _ hF => .move (lk 0 rfl rfl)) ?_
              refine S.nil ?_
              refine thenQ_n ?_
              exact ⟨_, h24.ret, (Wk.selS [0] (by decide) rfl (SelE.leaf (lk 0 rfl rfl) rfl (.refl _) (fun m => ((TyOk.int .i64).lt _ _)) (SelE.leaf (lk 12 rfl rfl) rfl (.refl _) (fun m => ((TyOk.int .i64).lt _ _)) (SelE.leaf (lk 13 rfl rfl) rfl (.refl _) (fun m => (lt_sl rfl (ty_TField.ltm _ _))) (SelE.spec (lk 14 rfl rfl) rfl (.slo (by first | rfl | simp)) rfl rfl (SelE.leaf (lk 15 rfl rfl) rfl (.refl _) (fun m => ((TyOk.int .i64).lt _ _)) (SelE.leaf (lk 16 rfl rfl) rfl (.refl _) (fun m => rfl) (SelE.leaf (lk 17 rfl rfl) rfl (.refl _) (fun m => (lt_cptr (ty_TPlan.lt _ _))) .nil))))))) (.cons (lt_buf ty_TField) rfl ⟨rfl, RSubL.leafr ty_TField _ rfl⟩ .nil))⟩
          · skip
            refine AWp.exit ?_
            refine thenQ_x ?_
            refine thenQ_x ?_
            refine blockQ_x ?_
            refine thenQ_n ?_
            exact ⟨_, h24.ret, (Wk.selS [0] (by decide) rfl (SelE.spec (lk 4 rfl rfl) rfl (.slo (by first | rfl | simp)) rfl rfl (SelE.leaf (lk 5 rfl rfl) rfl (.refl _) (fun m => ((TyOk.int .i64).lt _ _)) (SelE.leaf (lk 6 rfl rfl) rfl (.refl _) (fun m => rfl) .nil))) (.cons (lt_buf ty_TField) rfl ⟨rfl, RSubL.leafr ty_TField _ rfl⟩ .nil))⟩
        · skip
          refine thenQ_n ?_
          refine AWp.seq ?_
          refine W.reg [0, 1] rfl ?_
          refine S.sil 74 rfl rfl (fun _ hF => .move (lk 0 rfl rfl)) ?_
          obtain ⟨l33, m33, h⟩ := h.bnd
          refine S.eff 75 rfl rfl (.nf (H2 := [.buf 587 (List.map E_TField l33)]) (.sortFunc (ρ := Go.Proofs.Tryz.sort58_ren) srt58 rfl rfl ag43 sz43 ty_TField planCmp_swo ent58 ent59 ltL_nil (fun x y => C_plan_Apply_1 (plan_Apply_1_eq x y)) cF (lk 0 rfl rfl) cF rfl (by first | rfl | simp) m33 rfl) rfl rfl) trivial ?_
          refine S.nil ?_
          refine thenQ_n ?_
          refine AWp.seq ?_
          refine W.reg [0, 1, 2] rfl ?_
          refine S.sil 76 rfl rfl (fun _ hF => .move (lk 2 rfl rfl)) ?_
          refine S.sil 4 rfl rfl (fun _ hF => .assign (lk 0 rfl rfl)) ?_
          refine S.sil 5 rfl rfl (fun _ hF => .assign cI) ?_
          refine S.nil ?_
          refine thenQ_n ?_
          refine AWp.ret ?_
          refine endF_wk (Wk.freeze 0 rfl rfl (.same (lk 0 rfl rfl) (.cons (lk 1 rfl rfl) rfl (.slo (by first | rfl | simp [(sort_len planCmp_swo m33)])) (.same (lk 0 rfl rfl) (.same (lk 1 rfl rfl) .nil)))) (.refl _)) ?_
          obtain rfl := h.ret
          exact endFN rfl (Wk.selS [] .nil rfl (SelE.leaf (lk 1 rfl rfl) rfl (.refl _) (fun m => (ty_S_TField.lt _ _)) (SelE.leaf (lk 0 rfl rfl) rfl (.refl _) (fun m => ((TyOk.int .i64).lt _ _)) .nil)) .nil) (.cons (.tmp (lk 0 rfl rfl) rfl) (.cons (.tmp (lk 1 rfl rfl) rfl) .nil)) rfl rfl rfl
theorem C_plan_Total {a1 : List TField} {r : Int × Int} (h : plan_Total a1 = some r) : PureC Pg 9 [.sl 587 .no (List.map E_TField a1)] (.tup [(V.int .i64) r.1, (V.int .i64) r.2]) := by
  refine PureC.ofF (CallSpec.of_bodyF 32 0 fn9 rfl rfl rfl (Nat.le_of_ble_eq_true rfl) ?_) (ltL_c (lt_sl rfl (ty_TField.ltm _ _)) ltL_nil) (lt_tup (ltL_c ((TyOk.int .i64).lt _ _) (ltL_c ((TyOk.int .i64).lt _ _) ltL_nil)))
  replace h := Ok.of h
  unfold plan_Total at h
  refine AWp.seq ?_
  refine W.reg [0, 1] rfl ?_
  refine S.sil 2 rfl rfl (fun _ hF => .assign cI) ?_
  refine S.sil 3 rfl rfl (fun _ hF => .assign cI) ?_
  refine S.nil ?_
  refine thenQ_n ?_
  refine AWp.seq ?_
  refine W.reg [0] rfl ?_
  refine S.sil 4 rfl rfl (fun _ hF => .assign cNs) ?_
  refine S.nil ?_
  refine thenQ_n ?_
  refine AWp.seq ?_
  refine AWp.seq ?_
  refine W.reg [0, 1, 2] rfl ?_
  refine S.sil 9 rfl rfl (fun _ hF => .move (lk 3 rfl rfl)) ?_
  refine S.sil 10 rfl rfl (fun _ hF => .lenT sli22 (lk 0 rfl rfl) (vsub rfl (.refl _))) ?_
  refine S.sil 11 rfl rfl (fun _ hF => .move cI) ?_
  refine S.nil ?_
  refine thenQ_n ?_
  refine AWp.cutL (fun x4 => ⟨[(4, .sl 1 (.tok 0) (List.map (V.int .i64) x4)), (3, (V.int .i64) 0), (2, (V.int .i64) 0)], [.tail]⟩) nc_then h (fun q2 hq2 h => ?_) (fun x4 h => ?_)
  · refine AWp.block ?_
    refine AWp.loopT (fun s3 => ⟨[(11, (V.int .i64) s3.1), (10, (V.int .i64) (a1.length : Int)), (9, .sl 587 .no (List.map E_TField a1)), (4, .sl 1 (.tok 0) (List.map (V.int .i64) s3.2)), (3, (V.int .i64) 0), (2, (V.int .i64) 0)], [.tail]⟩) hq2 (Wk.vacant.trans (Wk.selS [0] (by decide) rfl (SelE.leaf (lk 0 rfl rfl) rfl (.refl _) (fun m => ((TyOk.int .i64).lt _ _)) (SelE.leaf (lk 1 rfl rfl) rfl (.refl _) (fun m => ((TyOk.int .i64).lt _ _)) (SelE.leaf (lk 2 rfl rfl) rfl (.refl _) (fun m => (lt_sl rfl (ty_TField.ltm _ _))) (SelE.spec (lk 3 rfl rfl) rfl (.nils_tok _ _) (ren_sl (TyOk.int .i64) _) (lt_sl rfl ((TyOk.int .i64).ltm _ _)) (SelE.leaf (lk 4 rfl rfl) rfl (.refl _) (fun m => ((TyOk.int .i64).lt _ _)) (SelE.leaf (lk 5 rfl rfl) rfl (.refl _) (fun m => ((TyOk.int .i64).lt _ _)) .nil)))))) (.cons rfl rfl trivial .nil))) (fun _ s3 h2 => ?_)
    rw [plan_Total_L1] at h2
    refine AWp.seq ?_
    refine W.reg [0] rfl ?_
    refine S.sil 12 rfl rfl (fun _ hF => .lss (lk 0 rfl rfl) (lk 1 rfl rfl)) ?_
    refine S.nil ?_
    refine thenQ_n ?_
    refine AWp.seq ?_
    refine AWp.condM (lk 0 rfl rfl) h2 (fun c1 h2 => ?_) (fun c1 h2 => ?_)
    · skip
      refine AWp.skip ?_
      refine thenQ_n ?_
      refine AWp.seq ?_
      refine AWp.block ?_
      refine AWp.seq ?_
      refine W.reg [0, 1, 2, 3] rfl ?_
      obtain ⟨j5, m5, h2⟩ := h2.bnd
      refine S.sil 13 rfl rfl (fun _ hF => .ixS sli22 (lk 3 rfl rfl) (lk 1 rfl rfl) m5) ?_
      obtain ⟨v6, ev6, h2⟩ := h2.nam
      refine S.sil 14 rfl rfl (fun _ hF => .nv (.loadC sz43 ag43 (lk 0 rfl rfl) (ty_TField.fl (a1.getD j5 default)) rfl) (congrArg E_TField ev6.symm)) ?_
      refine S.eff 6 rfl rfl (.nf (v2 := .ptr 1 [] 0) (H2 := [.tail, .cells (.st [V.str (default : ByteArray), (V.int .i64) 0, (V.int .i64) 0, E_TCounter (default : TCounter), E_TLock (default : TLock), .nils])]) (.alloc zv43) rfl rfl) trivial ?_
      refine S.effN rfl rfl (.nf (H2 := [.tail, .cells (E_TField v6)]) (.storeP sz43 (lk 0 rfl rfl) (lk 1 rfl rfl) rfl (.refl _) rfl .nil (by first | rfl | omega) .nil (ty_TField.fl v6) (fl_st (flL_c (show flen _ = 1 from rfl) (flL_c (show flen _ = 1 from rfl) (flL_c (show flen _ = 1 from rfl) (flL_c (ty_TCounter.fl (default : TCounter)) (flL_c (ty_TLock.fl (default : TLock)) (flL_c (show flen _ = 1 from rfl) flL_nil))))))) rfl) rfl rfl) trivial ?_
      refine S.nil ?_
      refine thenQ_n ?_
      refine AWp.wk (Wk.freeze 1 rfl rfl (.cons (lk 0 rfl rfl) rfl (.ptr .nil (by first | rfl | omega)) (.same (lk 1 rfl rfl) (.same (lk 2 rfl rfl) (.same (lk 3 rfl rfl) (.same (lk 4 rfl rfl) (.same (lk 5 rfl rfl) (.same (lk 6 rfl rfl) (.same (lk 7 rfl rfl) (.same (lk 8 rfl rfl) (.same (lk 9 rfl rfl) .nil)))))))))) (.refl _)) ?_
      refine AWp.seq ?_
      refine W.reg [0, 1, 2, 3, 4, 5, 6] rfl ?_
      refine S.sil 16 rfl rfl (fun _ hF => .loadC sz43 ag43 (lk 0 rfl rfl) (ty_TField.fl v6) rfl) ?_
      obtain ⟨r7, m7, h2⟩ := h2.bnd
      refine S.sil 17 rfl rfl (fun _ hF => .callQ ent24 cF (.c (lk 0 rfl rfl) (V.sub.refl _) .nil) (C_field_View m7)) ?_
      refine S.sil 15 rfl rfl (fun _ hF => .move (lk 0 rfl rfl)) ?_
      refine S.sil 18 rfl rfl (fun _ hF => .extract (lk 0 rfl rfl) rfl) ?_
      refine S.sil 19 rfl rfl (fun _ hF => .extract (lk 1 rfl rfl) rfl) ?_
      refine S.sil 7 rfl rfl (fun _ hF => .assign (lk 1 rfl rfl)) ?_
      refine S.sil 8 rfl rfl (fun _ hF => .assign (lk 1 rfl rfl)) ?_
      refine S.nil ?_
      refine thenQ_n ?_
      refine AWp.seq ?_
      refine AWp.seq ?_
      refine W.reg [0, 1] rfl ?_
      refine S.sil 20 rfl rfl (fun _ hF => .move (lk 0 rfl rfl)) ?_
      refine S.sil 21 rfl rfl (fun _ hF => .neq (lk 0 rfl rfl) cI) ?_
      refine S.nil ?_
      refine thenQ_n ?_
      refine AWp.condM (lk 0 rfl rfl) h2 (fun c2 h2 => ?_) (fun c2 h2 => ?_)
      · skip
        refine AWp.seq ?_
        refine W.reg [0, 1, 2] rfl ?_
        refine S.sil 22 rfl rfl (fun _ hF => .move (lk 2 rfl rfl)) ?_
        refine S.sil 2 rfl rfl (fun _ hF => .assign cI) ?_
        refine S.sil 3 rfl rfl (fun _ hF => .assign (lk 1 rfl rfl)) ?_
        refine S.nil ?_
        refine thenQ_n ?_
        refine AWp.ret ?_
        refine thenQ_r ?_
        refine blockQ_r ?_
        refine thenQ_r ?_
        refine thenQ_r ?_
        refine blockQ_r ?_
        refine thenQ_r ?_
        refine thenQ_r ?_
        have h := Ok.inrq h h2.ret
        obtain rfl := h.ret
        exact endFN rfl (Wk.selS [] .nil rfl (SelE.leaf (lk 1 rfl rfl) rfl (.refl _) (fun m => ((TyOk.int .i64).lt _ _)) (SelE.leaf (lk 0 rfl rfl) rfl (.refl _) (fun m => ((TyOk.int .i64).lt _ _)) .nil)) .nil) (.cons (.tmp (lk 0 rfl rfl) rfl) (.cons (.tmp (lk 1 rfl rfl) rfl) .nil)) rfl rfl rfl
      · skip
        refine AWp.skip ?_
        refine thenQ_n ?_
        refine W.reg [0, 1, 2, 3, 4] rfl ?_
        refine S.sil 23 rfl rfl (fun _ hF => .move (lk 16 rfl rfl)) ?_
        refine S.sil 24 rfl rfl (fun _ hF => .move (lk 4 rfl rfl)) ?_
        refine S.sil 25 rfl rfl (fun _ hF => .buildSliceW sli68 zv3 rfl rfl (by decide) (.cons (lk 0 rfl rfl) rfl (.refl _) rfl .nil)) ?_
        obtain ⟨l8, m8, h2⟩ := h2.bnd
        refine S.eff 26 rfl rfl (.nf (v2 := .sl 1 (.tok 2) (List.map (V.int .i64) l8)) (H2 := [.dead, .dead, .tail]) (.appT sli68 und68 zv3 rfl (by decide) (lk 2 rfl rfl) rfl (lk 0 rfl rfl) Rd.sl m8 rfl) rfl rfl) trivial ?_
        refine S.sil 4 rfl rfl (fun _ hF => .assign (lk 0 rfl rfl)) ?_
        refine S.nil ?_
        refine blockQ_n ?_
        refine thenQ_n ?_
        refine W.reg [0, 1] rfl ?_
        refine S.sil 27 rfl rfl (fun _ hF => .add (lk 18 rfl rfl) cI) ?_
        refine S.sil 11 rfl rfl (fun _ hF => .move (lk 0 rfl rfl)) ?_
        refine S.nil ?_
        refine thenQ_n ?_
        exact ⟨_, h2.ret, (Wk.selS [2] (by decide) rfl (SelE.leaf (lk 0 rfl rfl) rfl (.refl _) (fun m => ((TyOk.int .i64).lt _ _)) (SelE.leaf (lk 21 rfl rfl) rfl (.refl _) (fun m => ((TyOk.int .i64).lt _ _)) (SelE.leaf (lk 22 rfl rfl) rfl (.refl _) (fun m => (lt_sl rfl (ty_TField.ltm _ _))) (SelE.spec (lk 2 rfl rfl) rfl (.refl _) (ren_sl (TyOk.int .i64) _) (lt_sl rfl ((TyOk.int .i64).ltm _ _)) (SelE.leaf (lk 24 rfl rfl) rfl (.refl _) (fun m => ((TyOk.int .i64).lt _ _)) (SelE.leaf (lk 25 rfl rfl) rfl (.refl _) (fun m => ((TyOk.int .i64).lt _ _)) .nil)))))) (.cons rfl rfl trivial .nil))⟩
    · skip
      refine AWp.exit ?_
      refine thenQ_x ?_
      refine thenQ_x ?_
      refine blockQ_x ?_
      refine thenQ_n ?_
      exact ⟨_, h2.ret, (Wk.selS [0] (by decide) rfl (SelE.spec (lk 4 rfl rfl) rfl (.refl _) (ren_sl (TyOk.int .i64) _) (lt_sl rfl ((TyOk.int .i64).ltm _ _)) (SelE.leaf (lk 5 rfl rfl) rfl (.refl _) (fun m => ((TyOk.int .i64).lt _ _)) (SelE.leaf (lk 6 rfl rfl) rfl (.refl _) (fun m => ((TyOk.int .i64).lt _ _)) .nil))) (.cons rfl rfl trivial .nil))⟩
  · skip
    refine thenQ_n ?_
    refine AWp.seq ?_
    refine W.reg [0, 1, 2, 3, 4, 5] rfl ?_
    refine S.sil 28 rfl rfl (fun _ hF => .move (lk 0 rfl rfl)) ?_
    obtain ⟨r9, m9, h⟩ := h.bnd
    refine S.sil 29 rfl rfl (fun _ hF => .callQ ent40 cF (.c (lk 0 rfl rfl) (vsub rfl (.forget _ _ _)) .nil) (C_num_Sum m9)) ?_
    refine S.sil 30 rfl rfl (fun _ hF => .extract (lk 0 rfl rfl) rfl) ?_
    refine S.sil 31 rfl rfl (fun _ hF => .extract (lk 1 rfl rfl) rfl) ?_
    refine S.sil 2 rfl rfl (fun _ hF => .assign (lk 1 rfl rfl)) ?_
    refine S.sil 3 rfl rfl (fun _ hF => .assign (lk 1 rfl rfl)) ?_
    refine S.nil ?_
    refine thenQ_n ?_
    refine AWp.ret ?_
    obtain rfl := h.ret
    exact endFN rfl (Wk.selS [] .nil rfl (SelE.leaf (lk 1 rfl rfl) rfl (.refl _) (fun m => ((TyOk.int .i64).lt _ _)) (SelE.leaf (lk 0 rfl rfl) rfl (.refl _) (fun m => ((TyOk.int .i64).lt _ _)) .nil)) .nil) (.cons (.tmp (lk 0 rfl rfl) rfl) (.cons (.tmp (lk 1 rfl rfl) rfl) .nil)) rfl rfl rfl
end Go.Av
