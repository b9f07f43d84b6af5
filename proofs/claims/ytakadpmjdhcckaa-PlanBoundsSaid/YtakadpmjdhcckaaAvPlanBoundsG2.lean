/- Each function tells what its mirror tells. -/
import Derived.Test.YtakadpmjdhcckaaAvPlanBoundsG1
import Derived.Test.YtakadpmjdhcckaaProg
import Derived.KernelRfl
namespace Go.Av
set_option linter.unusedSectionVars false
open Go.Proofs
set_option linter.unusedVariables false
set_option linter.unusedSimpArgs false
set_option maxHeartbeats 4000000
set_option maxRecDepth 10000
theorem C_plan_names {a1 : TPlan} {r : (List ByteArray)} (h : plan_names a1 = some r) : PureC Pg 90 [E_TPlan a1] (E_S_s r) := by
  refine PureC.ofF (CallSpec.of_bodyF 14 0 fn90 rfl rfl rfl (Nat.le_of_ble_eq_true rfl) ?_) (ltL_c (ty_TPlan.lt _ _) ltL_nil) (ty_S_s.lt _ _)
  replace h := Ok.of h
  unfold plan_names at h
  refine AWp.seq ?_
  refine W.reg [0, 1] rfl ?_
  refine S.eff 1 rfl rfl (.nf (v2 := .ptr 0 [] 0) (H2 := [.cells (E_TPlan a1)]) (.box (lk 0 rfl rfl) rfl) rfl rfl) trivial ?_
  refine S.sil 2 rfl rfl (fun _ hF => .assign cNs) ?_
  refine S.nil ?_
  refine thenQ_n ?_
  refine AWp.wk (Wk.freeze 0 rfl rfl (.same (lk 0 rfl rfl) (.cons (lk 1 rfl rfl) rfl (.ptr .nil (by first | rfl | omega)) .nil)) (.refl _)) ?_
  refine AWp.seq ?_
  refine AWp.seq ?_
  refine W.reg [0, 1, 2] rfl ?_
  refine S.sil 3 rfl rfl (fun _ hF => .fieldAddrC lay51 rfl rfl (lk 1 rfl rfl) rfl flL_nil) ?_
  refine S.sil 4 rfl rfl (fun _ hF => .loadC sz3 ag3 (lk 0 rfl rfl) rfl rfl) ?_
  refine S.sil 5 rfl rfl (fun _ hF => .eql (lk 0 rfl rfl) cI) ?_
  refine S.nil ?_
  refine thenQ_n ?_
  refine AWp.condM (lk 0 rfl rfl) h (fun c1 h => ?_) (fun c1 h => ?_)
  · skip
    refine AWp.seq ?_
    refine W.reg [0, 1, 2, 3, 4, 5] rfl ?_
    refine S.sil 6 rfl rfl (fun _ hF => .fieldAddrC lay51 rfl rfl (lk 4 rfl rfl) rfl (flL_c (show flen _ = 1 from rfl) flL_nil)) ?_
    refine S.sil 7 rfl rfl (fun _ hF => .loadC sz9 ag9 (lk 0 rfl rfl) rfl rfl) ?_
    refine S.sil 8 rfl rfl (fun _ hF => .fieldAddrC lay51 rfl rfl (lk 6 rfl rfl) rfl (flL_c (show flen _ = 1 from rfl) (flL_c (show flen _ = 1 from rfl) flL_nil))) ?_
    refine S.sil 9 rfl rfl (fun _ hF => .loadC sz9 ag9 (lk 0 rfl rfl) rfl rfl) ?_
    refine S.sil 10 rfl rfl (fun _ hF => .buildSliceW sli120 zv9 rfl rfl (by decide) (.cons (lk 2 rfl rfl) rfl (.refl _) rfl (.cons (lk 0 rfl rfl) rfl (.refl _) rfl .nil))) ?_
    refine S.sil 2 rfl rfl (fun _ hF => .assign (lk 0 rfl rfl)) ?_
    refine S.nil ?_
    refine thenQ_n ?_
    refine AWp.ret ?_
    refine thenQ_r ?_
    obtain rfl := h.ret
    exact endF1 rfl (Wk.selS [] .nil rfl (SelE.leaf (lk 0 rfl rfl) rfl (.forget _ _ _) (fun m => (ty_S_s.lt [a1.Name, a1.Other] _)) .nil) .nil) (.tmp (lk 0 rfl rfl) rfl) rfl rfl
  · skip
    refine AWp.skip ?_
    refine thenQ_n ?_
    refine AWp.seq ?_
    refine W.reg [0, 1, 2, 3] rfl ?_
    refine S.sil 11 rfl rfl (fun _ hF => .fieldAddrC lay51 rfl rfl (lk 4 rfl rfl) rfl (flL_c (show flen _ = 1 from rfl) flL_nil)) ?_
    refine S.sil 12 rfl rfl (fun _ hF => .loadC sz9 ag9 (lk 0 rfl rfl) rfl rfl) ?_
    refine S.sil 13 rfl rfl (fun _ hF => .buildSliceW sli120 zv9 rfl rfl (by decide) (.cons (lk 0 rfl rfl) rfl (.refl _) rfl .nil)) ?_
    refine S.sil 2 rfl rfl (fun _ hF => .assign (lk 0 rfl rfl)) ?_
    refine S.nil ?_
    refine thenQ_n ?_
    refine AWp.ret ?_
    obtain rfl := h.ret
    exact endF1 rfl (Wk.selS [] .nil rfl (SelE.leaf (lk 0 rfl rfl) rfl (.forget _ _ _) (fun m => (ty_S_s.lt [a1.Name] _)) .nil) .nil) (.tmp (lk 0 rfl rfl) rfl) rfl rfl
theorem C_plan_Find_1 {a1 : TField} {a2 : ByteArray} {r : Bool} (h : plan_Find_1 a1 a2 = some r) : PureC Pg 97 [E_TField a1, .cptr (V.str a2)] (V.bool r) := by
  refine PureC.ofF (CallSpec.of_bodyF 8 0 fn97 rfl rfl rfl (Nat.le_of_ble_eq_true rfl) ?_) (ltL_c (ty_TField.lt _ _) (ltL_c (lt_cptr (TyOk.str.lt _ _)) ltL_nil)) (TyOk.bool.lt _ _)
  replace h := Ok.of h
  unfold plan_Find_1 at h
  refine AWp.seq ?_
  refine W.reg [0, 1] rfl ?_
  refine S.eff 2 rfl rfl (.nf (v2 := .ptr 0 [] 0) (H2 := [.cells (E_TField a1)]) (.box (lk 0 rfl rfl) rfl) rfl rfl) trivial ?_
  refine S.sil 3 rfl rfl (fun _ hF => .assign cB) ?_
  refine S.nil ?_
  refine thenQ_n ?_
  refine AWp.wk (Wk.freeze 0 rfl rfl (.same (lk 0 rfl rfl) (.cons (lk 1 rfl rfl) rfl (.ptr .nil (by first | rfl | omega)) (.same (lk 3 rfl rfl) .nil))) (.refl _)) ?_
  refine AWp.seq ?_
  refine W.reg [0, 1, 2, 3, 4] rfl ?_
  refine S.sil 4 rfl rfl (fun _ hF => .fieldAddrC lay33 rfl rfl (lk 1 rfl rfl) rfl flL_nil) ?_
  refine S.sil 5 rfl rfl (fun _ hF => .loadC sz9 ag9 (lk 0 rfl rfl) rfl rfl) ?_
  refine S.sil 6 rfl rfl (fun _ hF => .loadC sz9 ag9 (lk 4 rfl rfl) rfl rfl) ?_
  refine S.sil 7 rfl rfl (fun _ hF => .eqlS (lk 1 rfl rfl) (lk 0 rfl rfl)) ?_
  refine S.sil 3 rfl rfl (fun _ hF => .assign (lk 0 rfl rfl)) ?_
  refine S.nil ?_
  refine thenQ_n ?_
  refine AWp.ret ?_
  obtain rfl := h.ret
  exact endF1 rfl (Wk.selS [] .nil rfl (SelE.leaf (lk 0 rfl rfl) rfl (.refl _) (fun m => (TyOk.bool.lt _ _)) .nil) .nil) (.tmp (lk 0 rfl rfl) rfl) rfl rfl
theorem C_slices_IndexFunc_Field_Find_1 {a1 : List TField} {a2 : ByteArray} {r : Int} (h : slices_IndexFunc_Field_Find_1 a1 a2 = some r) : PureC Pg 96 [.sl 587 .no (List.map E_TField a1), .fn 97 [] [.cptr (V.str a2)]] ((V.int .i64) r) := by
  refine PureC.ofF (CallSpec.of_bodyF 19 0 fn96 rfl rfl rfl (Nat.le_of_ble_eq_true rfl) ?_) (ltL_c (lt_sl rfl (ty_TField.ltm _ _)) (ltL_c (lt_fn ltL_nil (ltL_c (lt_cptr (TyOk.str.lt _ _)) ltL_nil)) ltL_nil)) ((TyOk.int .i64).lt _ _)
  replace h := Ok.of h
  unfold slices_IndexFunc_Field_Find_1 at h
  refine AWp.seq ?_
  refine W.reg [0] rfl ?_
  refine S.sil 4 rfl rfl (fun _ hF => .assign cI) ?_
  refine S.nil ?_
  refine thenQ_n ?_
  refine AWp.seq ?_
  refine AWp.seq ?_
  refine W.reg [0, 1, 2] rfl ?_
  refine S.sil 6 rfl rfl (fun _ hF => .move (lk 1 rfl rfl)) ?_
  refine S.sil 7 rfl rfl (fun _ hF => .lenT sli49 (lk 0 rfl rfl) (vsub rfl (.refl _))) ?_
  refine S.sil 8 rfl rfl (fun _ hF => .move cI) ?_
  refine S.nil ?_
  refine thenQ_n ?_
  refine AWp.cutL (fun x5 => ⟨[(4, (V.int .i64) 0)], []⟩) nc_then h (fun q3 hq3 h => ?_) (fun x5 h => ?_)
  · refine AWp.block ?_
    refine AWp.loopT (fun s4 => ⟨[(8, (V.int .i64) s4), (7, (V.int .i64) (a1.length : Int)), (4, (V.int .i64) 0), (0, .sl 587 .no (List.map E_TField a1)), (1, .fn 97 [] [.cptr (V.str a2)])], []⟩) hq3 (Wk.selS [] (by decide) rfl (SelE.leaf (lk 0 rfl rfl) rfl (.refl _) (fun m => ((TyOk.int .i64).lt _ _)) (SelE.leaf (lk 1 rfl rfl) rfl (.refl _) (fun m => ((TyOk.int .i64).lt _ _)) (SelE.leaf (lk 3 rfl rfl) rfl (.refl _) (fun m => ((TyOk.int .i64).lt _ _)) (SelE.leaf (lk 4 rfl rfl) rfl (.refl _) (fun m => (lt_sl rfl (ty_TField.ltm _ _))) (SelE.leaf (lk 5 rfl rfl) rfl (.refl _) (fun m => (lt_fn ltL_nil (ltL_c (lt_cptr (TyOk.str.lt _ _)) ltL_nil))) .nil))))) .nil) (fun _ s4 h3 => ?_)
    rw [slices_IndexFunc_Field_Find_1_L1] at h3
    refine AWp.seq ?_
    refine W.reg [0] rfl ?_
    refine S.sil 9 rfl rfl (fun _ hF => .lss (lk 0 rfl rfl) (lk 1 rfl rfl)) ?_
    refine S.nil ?_
    refine thenQ_n ?_
    refine AWp.seq ?_
    refine AWp.condM (lk 0 rfl rfl) h3 (fun c1 h3 => ?_) (fun c1 h3 => ?_)
    · skip
      refine AWp.skip ?_
      refine thenQ_n ?_
      refine AWp.seq ?_
      refine AWp.block ?_
      refine AWp.seq ?_
      refine W.reg [0, 1] rfl ?_
      refine S.sil 10 rfl rfl (fun _ hF => .move (lk 1 rfl rfl)) ?_
      refine S.sil 5 rfl rfl (fun _ hF => .assign (lk 0 rfl rfl)) ?_
      refine S.nil ?_
      refine thenQ_n ?_
      refine AWp.seq ?_
      refine W.reg [0, 1, 2, 3, 4, 5] rfl ?_
      refine S.sil 11 rfl rfl (fun _ hF => .move (lk 7 rfl rfl)) ?_
      refine S.sil 12 rfl rfl (fun _ hF => .move (lk 7 rfl rfl)) ?_
      refine S.sil 13 rfl rfl (fun _ hF => .move (lk 2 rfl rfl)) ?_
      obtain ⟨j6, m6, h3⟩ := h3.bnd
      refine S.sil 14 rfl rfl (fun _ hF => .ixS sli49 (lk 1 rfl rfl) (lk 0 rfl rfl) m6) ?_
      obtain ⟨v7, ev7, h3⟩ := h3.nam
      refine S.sil 15 rfl rfl (fun _ hF => .nv (.loadC sz33 ag33 (lk 0 rfl rfl) (ty_TField.fl (a1.getD j6 default)) rfl) (congrArg E_TField ev7.symm)) ?_
      obtain ⟨r8, m8, h3⟩ := h3.bnd
      refine S.sil 16 rfl rfl (fun _ hF => .callQ ent97 (lk 4 rfl rfl) (.c (lk 0 rfl rfl) (V.sub.refl _) (.cons (.refl _) .nil)) (C_plan_Find_1 m8)) ?_
      refine S.nil ?_
      refine thenQ_n ?_
      refine AWp.condM (lk 0 rfl rfl) h3 (fun c2 h3 => ?_) (fun c2 h3 => ?_)
      · skip
        refine AWp.seq ?_
        refine W.reg [0, 1] rfl ?_
        refine S.sil 17 rfl rfl (fun _ hF => .move (lk 6 rfl rfl)) ?_
        refine S.sil 4 rfl rfl (fun _ hF => .assign (lk 0 rfl rfl)) ?_
        refine S.nil ?_
        refine thenQ_n ?_
        refine AWp.ret ?_
        refine blockQ_r ?_
        refine thenQ_r ?_
        refine thenQ_r ?_
        refine blockQ_r ?_
        refine thenQ_r ?_
        refine thenQ_r ?_
        have h := Ok.inrq h h3.ret
        obtain rfl := h.ret
        exact endF1 rfl (Wk.selS [] .nil rfl (SelE.leaf (lk 0 rfl rfl) rfl (.refl _) (fun m => ((TyOk.int .i64).lt _ _)) .nil) .nil) (.tmp (lk 0 rfl rfl) rfl) rfl rfl
      · skip
        refine AWp.skip ?_
        refine blockQ_n ?_
        refine thenQ_n ?_
        refine W.reg [0, 1] rfl ?_
        refine S.sil 18 rfl rfl (fun _ hF => .add (lk 9 rfl rfl) cI) ?_
        refine S.sil 8 rfl rfl (fun _ hF => .move (lk 0 rfl rfl)) ?_
        refine S.nil ?_
        refine thenQ_n ?_
        exact ⟨_, h3.ret, (Wk.selS [] (by decide) rfl (SelE.leaf (lk 0 rfl rfl) rfl (.refl _) (fun m => ((TyOk.int .i64).lt _ _)) (SelE.leaf (lk 12 rfl rfl) rfl (.refl _) (fun m => ((TyOk.int .i64).lt _ _)) (SelE.leaf (lk 13 rfl rfl) rfl (.refl _) (fun m => ((TyOk.int .i64).lt _ _)) (SelE.leaf (lk 14 rfl rfl) rfl (.refl _) (fun m => (lt_sl rfl (ty_TField.ltm _ _))) (SelE.leaf (lk 15 rfl rfl) rfl (.refl _) (fun m => (lt_fn ltL_nil (ltL_c (lt_cptr (TyOk.str.lt _ _)) ltL_nil))) .nil))))) .nil)⟩
    · skip
      refine AWp.exit ?_
      refine thenQ_x ?_
      refine thenQ_x ?_
      refine blockQ_x ?_
      refine thenQ_n ?_
      exact ⟨_, h3.ret, (Wk.selS [] (by decide) rfl (SelE.leaf (lk 3 rfl rfl) rfl (.refl _) (fun m => ((TyOk.int .i64).lt _ _)) .nil) .nil)⟩
  · skip
    refine thenQ_n ?_
    refine AWp.seq ?_
    refine W.reg [0] rfl ?_
    refine S.sil 4 rfl rfl (fun _ hF => .assign cI) ?_
    refine S.nil ?_
    refine thenQ_n ?_
    refine AWp.ret ?_
    obtain rfl := h.ret
    exact endF1 rfl (Wk.selS [] .nil rfl (SelE.leaf (lk 0 rfl rfl) rfl (.refl _) (fun m => ((TyOk.int .i64).lt _ _)) .nil) .nil) (.tmp (lk 0 rfl rfl) rfl) rfl rfl
theorem C_plan_Find {a1 : List TField} {a2 : ByteArray} {r : Int × Bool} (h : plan_Find a1 a2 = some r) : PureC Pg 48 [.sl 587 .no (List.map E_TField a1), V.str a2] (.tup [(V.int .i64) r.1, V.bool r.2]) := by
  refine PureC.ofF (CallSpec.of_bodyF 14 0 fn48 rfl rfl rfl (Nat.le_of_ble_eq_true rfl) ?_) (ltL_c (lt_sl rfl (ty_TField.ltm _ _)) (ltL_c (TyOk.str.lt _ _) ltL_nil)) (lt_tup (ltL_c ((TyOk.int .i64).lt _ _) (ltL_c (TyOk.bool.lt _ _) ltL_nil)))
  replace h := Ok.of h
  unfold plan_Find at h
  refine AWp.seq ?_
  refine W.reg [0, 1, 2] rfl ?_
  refine S.eff 3 rfl rfl (.nf (v2 := .ptr 0 [] 0) (H2 := [.cells (V.str a2)]) (.box (lk 1 rfl rfl) rfl) rfl rfl) trivial ?_
  refine S.sil 4 rfl rfl (fun _ hF => .assign cI) ?_
  refine S.sil 5 rfl rfl (fun _ hF => .assign cB) ?_
  refine S.nil ?_
  refine thenQ_n ?_
  refine AWp.wk (Wk.freeze 0 rfl rfl (.same (lk 0 rfl rfl) (.same (lk 1 rfl rfl) (.cons (lk 2 rfl rfl) rfl (.ptr .nil (by first | rfl | omega)) (.same (lk 3 rfl rfl) .nil)))) (.refl _)) ?_
  refine AWp.seq ?_
  refine W.reg [0, 1, 2, 3] rfl ?_
  refine S.sil 7 rfl rfl (fun _ hF => .move (lk 3 rfl rfl)) ?_
  refine S.sil 8 rfl rfl (fun _ hF => .makeFunc rfl (mapE1 (lk 3 rfl rfl)) rfl rfl) ?_
  obtain ⟨r3, m3, h⟩ := h.bnd
  refine S.sil 9 rfl rfl (fun _ hF => .callQ ent96 cF (.c (lk 1 rfl rfl) (V.sub.refl _) (.c (lk 0 rfl rfl) (V.sub.refl _) .nil)) (C_slices_IndexFunc_Field_Find_1 m3)) ?_
  refine S.sil 6 rfl rfl (fun _ hF => .assign (lk 0 rfl rfl)) ?_
  refine S.nil ?_
  refine thenQ_n ?_
  refine AWp.seq ?_
  refine W.reg [0, 1, 2, 3, 4, 5] rfl ?_
  refine S.sil 10 rfl rfl (fun _ hF => .move (lk 0 rfl rfl)) ?_
  refine S.sil 11 rfl rfl (fun _ hF => .bmax (lk 0 rfl rfl) cI) ?_
  refine S.sil 12 rfl rfl (fun _ hF => .move (lk 2 rfl rfl)) ?_
  refine S.sil 13 rfl rfl (fun _ hF => .geq (lk 0 rfl rfl) cI) ?_
  refine S.sil 4 rfl rfl (fun _ hF => .assign (lk 2 rfl rfl)) ?_
  refine S.sil 5 rfl rfl (fun _ hF => .assign (lk 1 rfl rfl)) ?_
  refine S.nil ?_
  refine thenQ_n ?_
  refine AWp.prune (.eq (lk 0 rfl rfl) rfl (.eq (lk 1 rfl rfl) rfl .nil)) ?_
  refine AWp.ret ?_
  obtain rfl := h.ret
  exact endFN rfl (Wk.selS [] .nil rfl (SelE.leaf (lk 1 rfl rfl) rfl (.refl _) (fun m => ((TyOk.int .i64).lt _ _)) (SelE.leaf (lk 0 rfl rfl) rfl (.refl _) (fun m => (TyOk.bool.lt _ _)) .nil)) .nil) (.cons (.tmp (lk 0 rfl rfl) rfl) (.cons (.tmp (lk 1 rfl rfl) rfl) .nil)) rfl rfl rfl
theorem C_plan_Fits_1 {a1 : TField} {b2 : Int} {r : Bool × Int} (h : plan_Fits_1 a1 b2 = some r) : CallSpec Pg 92 [E_TField a1, .ptr 0 [] 0] [.cells ((V.int .i64) b2)] fun o H' => o = .ret (V.bool r.1) ∧ H' = [.cells ((V.int .i64) r.2)] := by
  refine CallSpec.of_bodyF 8 1 fn92 rfl rfl rfl (Nat.le_of_ble_eq_true rfl) ?_
  replace h := Ok.of h
  unfold plan_Fits_1 at h
  refine AWp.seq ?_
  refine W.reg [0, 1] rfl ?_
  refine S.eff 2 rfl rfl (.nf (v2 := .ptr 1 [] 0) (H2 := [.cells ((V.int .i64) b2), .cells (E_TField a1)]) (.box (lk 0 rfl rfl) rfl) rfl rfl) trivial ?_
  refine S.sil 3 rfl rfl (fun _ hF => .assign cB) ?_
  refine S.nil ?_
  refine thenQ_n ?_
  refine AWp.wk (Wk.freeze 1 rfl rfl (.same (lk 0 rfl rfl) (.cons (lk 1 rfl rfl) rfl (.ptr .nil (by first | rfl | omega)) (.same (lk 3 rfl rfl) .nil))) (.refl _)) ?_
  refine AWp.seq ?_
  refine W.reg [0, 1, 2, 3, 4] rfl ?_
  refine S.sil 4 rfl rfl (fun _ hF => .fieldAddrC lay33 rfl rfl (lk 1 rfl rfl) rfl (flL_c (show flen _ = 1 from rfl) flL_nil)) ?_
  refine S.sil 5 rfl rfl (fun _ hF => .loadC sz3 ag3 (lk 0 rfl rfl) rfl rfl) ?_
  refine S.qui 6 rfl rfl (fun _ => .loadP sz3 ag3 (lk 4 rfl rfl) rfl .nil (by first | rfl | omega) rfl rfl) ?_
  refine S.sil 7 rfl rfl (fun _ hF => .neq (lk 1 rfl rfl) (lk 0 rfl rfl)) ?_
  refine S.sil 3 rfl rfl (fun _ hF => .assign (lk 0 rfl rfl)) ?_
  refine S.nil ?_
  refine thenQ_n ?_
  refine AWp.ret ?_
  obtain rfl := h.ret
  exact endF1 rfl (Wk.selS [0] (by decide) rfl (SelE.leaf (lk 0 rfl rfl) rfl (.refl _) (fun m => (TyOk.bool.lt _ _)) .nil) (.cons (lt_cells ((TyOk.int .i64).lt _ _)) rfl (RSub.trans (.refl _) (.eq ((TyOk.int .i64).cl _ _).symm)) .nil)) (.tmp (lk 0 rfl rfl) rfl) rfl rfl
theorem C_slices_IndexFunc_Field_Fits_1 {a1 : List TField} {b2 : Int} {r : Int × Int} (h : slices_IndexFunc_Field_Fits_1 a1 b2 = some r) : CallSpec Pg 96 [.sl 587 .no (List.map E_TField a1), .fn 92 [] [.ptr 0 [] 0]] [.cells ((V.int .i64) b2)] fun o H' => o = .ret ((V.int .i64) r.1) ∧ H' = [.cells ((V.int .i64) r.2)] := by
  refine CallSpec.of_bodyF 19 1 fn96 rfl rfl rfl (Nat.le_of_ble_eq_true rfl) ?_
  replace h := Ok.of h
  unfold slices_IndexFunc_Field_Fits_1 at h
  refine AWp.seq ?_
  refine W.reg [0] rfl ?_
  refine S.sil 4 rfl rfl (fun _ hF => .assign cI) ?_
  refine S.nil ?_
  refine thenQ_n ?_
  refine AWp.seq ?_
  refine AWp.seq ?_
  refine W.reg [0, 1, 2] rfl ?_
  refine S.sil 6 rfl rfl (fun _ hF => .move (lk 1 rfl rfl)) ?_
  refine S.sil 7 rfl rfl (fun _ hF => .lenT sli49 (lk 0 rfl rfl) (vsub rfl (.refl _))) ?_
  refine S.sil 8 rfl rfl (fun _ hF => .move cI) ?_
  refine S.nil ?_
  refine thenQ_n ?_
  refine AWp.cutL (fun x5 => ⟨[(4, (V.int .i64) 0)], [.cells ((V.int .i64) x5)]⟩) nc_then h (fun q3 hq3 h => ?_) (fun x5 h => ?_)
  · refine AWp.block ?_
    refine AWp.loopT (fun s4 => ⟨[(8, (V.int .i64) s4.2), (7, (V.int .i64) (a1.length : Int)), (4, (V.int .i64) 0), (0, .sl 587 .no (List.map E_TField a1)), (1, .fn 92 [] [.ptr 0 [] 0])], [.cells ((V.int .i64) s4.1)]⟩) hq3 (Wk.selS [0] (by decide) rfl (SelE.leaf (lk 0 rfl rfl) rfl (.refl _) (fun m => ((TyOk.int .i64).lt _ _)) (SelE.leaf (lk 1 rfl rfl) rfl (.refl _) (fun m => ((TyOk.int .i64).lt _ _)) (SelE.leaf (lk 3 rfl rfl) rfl (.refl _) (fun m => ((TyOk.int .i64).lt _ _)) (SelE.leaf (lk 4 rfl rfl) rfl (.refl _) (fun m => (lt_sl rfl (ty_TField.ltm _ _))) (SelE.spec (lk 5 rfl rfl) rfl (.refl _) (ren_fn rfl (renL_c rfl rfl)) (lt_fn ltL_nil (ltL_c rfl ltL_nil)) .nil))))) (.cons (lt_cells ((TyOk.int .i64).lt _ _)) rfl (RSub.trans (.refl _) (.eq ((TyOk.int .i64).cl _ _).symm)) .nil)) (fun _ s4 h3 => ?_)
    rw [slices_IndexFunc_Field_Fits_1_L1] at h3
    refine AWp.seq ?_
    refine W.reg [0] rfl ?_
    refine S.sil 9 rfl rfl (fun _ hF => .lss (lk 0 rfl rfl) (lk 1 rfl rfl)) ?_
    refine S.nil ?_
    refine thenQ_n ?_
    refine AWp.seq ?_
    refine AWp.condM (lk 0 rfl rfl) h3 (fun c1 h3 => ?_) (fun c1 h3 => ?_)
    · skip
      refine AWp.skip ?_
      refine thenQ_n ?_
      refine AWp.seq ?_
      refine AWp.block ?_
      refine AWp.seq ?_
      refine W.reg [0, 1] rfl ?_
      refine S.sil 10 rfl rfl (fun _ hF => .move (lk 1 rfl rfl)) ?_
      refine S.sil 5 rfl rfl (fun _ hF => .assign (lk 0 rfl rfl)) ?_
      refine S.nil ?_
      refine thenQ_n ?_
      refine AWp.seq ?_
      refine W.reg [0, 1, 2, 3, 4, 5] rfl ?_
      refine S.sil 11 rfl rfl (fun _ hF => .move (lk 7 rfl rfl)) ?_
      refine S.sil 12 rfl rfl (fun _ hF => .move (lk 7 rfl rfl)) ?_
      refine S.sil 13 rfl rfl (fun _ hF => .move (lk 2 rfl rfl)) ?_
      obtain ⟨j6, m6, h3⟩ := h3.bnd
      refine S.sil 14 rfl rfl (fun _ hF => .ixS sli49 (lk 1 rfl rfl) (lk 0 rfl rfl) m6) ?_
      obtain ⟨v7, ev7, h3⟩ := h3.nam
      refine S.sil 15 rfl rfl (fun _ hF => .nv (.loadC sz33 ag33 (lk 0 rfl rfl) (ty_TField.fl (a1.getD j6 default)) rfl) (congrArg E_TField ev7.symm)) ?_
      obtain ⟨r8, m8, h3⟩ := h3.bnd
      refine S.eff 16 rfl rfl (.nf (v2 := V.bool r8.1) (H2 := [.cells ((V.int .i64) r8.2)]) (.callH ent92 (lk 4 rfl rfl) [0] (C_plan_Fits_1 m8) (by decide) (.cons (lt_cells ((TyOk.int .i64).lt _ _)) rfl (RSub.trans (.refl _) (.eq ((TyOk.int .i64).cl _ _).symm)) .nil) (ltL_c (ty_TField.lt _ _) (ltL_c rfl ltL_nil)) (.c (lk 0 rfl rfl) (vsubr (V.sub.refl _) (ty_TField.lt _ _)) (.cons (subren rfl) .nil)) (TyOk.bool.cl _ _) (mapc (ren_cells ((TyOk.int .i64).cl _ _)) rfl) rfl) rfl rfl) trivial ?_
      refine S.nil ?_
      refine thenQ_n ?_
      refine AWp.condM (lk 0 rfl rfl) h3 (fun c2 h3 => ?_) (fun c2 h3 => ?_)
      · skip
        refine AWp.seq ?_
        refine W.reg [0, 1] rfl ?_
        refine S.sil 17 rfl rfl (fun _ hF => .move (lk 6 rfl rfl)) ?_
        refine S.sil 4 rfl rfl (fun _ hF => .assign (lk 0 rfl rfl)) ?_
        refine S.nil ?_
        refine thenQ_n ?_
        refine AWp.ret ?_
        refine blockQ_r ?_
        refine thenQ_r ?_
        refine thenQ_r ?_
        refine blockQ_r ?_
        refine thenQ_r ?_
        refine thenQ_r ?_
        have h := Ok.inrq h h3.ret
        obtain rfl := h.ret
        exact endF1 rfl (Wk.selS [0] (by decide) rfl (SelE.leaf (lk 0 rfl rfl) rfl (.refl _) (fun m => ((TyOk.int .i64).lt _ _)) .nil) (.cons (lt_cells ((TyOk.int .i64).lt _ _)) rfl (RSub.trans (.refl _) (.eq ((TyOk.int .i64).cl _ _).symm)) .nil)) (.tmp (lk 0 rfl rfl) rfl) rfl rfl
      · skip
        refine AWp.skip ?_
        refine blockQ_n ?_
        refine thenQ_n ?_
        refine W.reg [0, 1] rfl ?_
        refine S.sil 18 rfl rfl (fun _ hF => .add (lk 9 rfl rfl) cI) ?_
        refine S.sil 8 rfl rfl (fun _ hF => .move (lk 0 rfl rfl)) ?_
        refine S.nil ?_
        refine thenQ_n ?_
        exact ⟨_, h3.ret, (Wk.selS [0] (by decide) rfl (SelE.leaf (lk 0 rfl rfl) rfl (.refl _) (fun m => ((TyOk.int .i64).lt _ _)) (SelE.leaf (lk 12 rfl rfl) rfl (.refl _) (fun m => ((TyOk.int .i64).lt _ _)) (SelE.leaf (lk 13 rfl rfl) rfl (.refl _) (fun m => ((TyOk.int .i64).lt _ _)) (SelE.leaf (lk 14 rfl rfl) rfl (.refl _) (fun m => (lt_sl rfl (ty_TField.ltm _ _))) (SelE.spec (lk 15 rfl rfl) rfl (.refl _) (ren_fn rfl (renL_c rfl rfl)) (lt_fn ltL_nil (ltL_c rfl ltL_nil)) .nil))))) (.cons (lt_cells ((TyOk.int .i64).lt _ _)) rfl (RSub.trans (.refl _) (.eq ((TyOk.int .i64).cl _ _).symm)) .nil))⟩
    · skip
      refine AWp.exit ?_
      refine thenQ_x ?_
      refine thenQ_x ?_
      refine blockQ_x ?_
      refine thenQ_n ?_
      exact ⟨_, h3.ret, (Wk.selS [0] (by decide) rfl (SelE.leaf (lk 3 rfl rfl) rfl (.refl _) (fun m => ((TyOk.int .i64).lt _ _)) .nil) (.cons (lt_cells ((TyOk.int .i64).lt _ _)) rfl (RSub.trans (.refl _) (.eq ((TyOk.int .i64).cl _ _).symm)) .nil))⟩
  · skip
    refine thenQ_n ?_
    refine AWp.seq ?_
    refine W.reg [0] rfl ?_
    refine S.sil 4 rfl rfl (fun _ hF => .assign cI) ?_
    refine S.nil ?_
    refine thenQ_n ?_
    refine AWp.ret ?_
    obtain rfl := h.ret
    exact endF1 rfl (Wk.selS [0] (by decide) rfl (SelE.leaf (lk 0 rfl rfl) rfl (.refl _) (fun m => ((TyOk.int .i64).lt _ _)) .nil) (.cons (lt_cells ((TyOk.int .i64).lt _ _)) rfl (RSub.trans (.refl _) (.eq ((TyOk.int .i64).cl _ _).symm)) .nil)) (.tmp (lk 0 rfl rfl) rfl) rfl rfl
theorem C_slices_ContainsFunc_Field_Fits_1 {a1 : List TField} {b2 : Int} {r : Bool × Int} (h : slices_ContainsFunc_Field_Fits_1 a1 b2 = some r) : CallSpec Pg 91 [.sl 587 .no (List.map E_TField a1), .fn 92 [] [.ptr 0 [] 0]] [.cells ((V.int .i64) b2)] fun o H' => o = .ret (V.bool r.1) ∧ H' = [.cells ((V.int .i64) r.2)] := by
  refine CallSpec.of_bodyF 9 1 fn91 rfl rfl rfl (Nat.le_of_ble_eq_true rfl) ?_
  replace h := Ok.of h
  unfold slices_ContainsFunc_Field_Fits_1 at h
  refine AWp.seq ?_
  refine W.reg [0] rfl ?_
  refine S.sil 4 rfl rfl (fun _ hF => .assign cB) ?_
  refine S.nil ?_
  refine thenQ_n ?_
  refine AWp.seq ?_
  refine W.reg [0, 1, 2, 3, 4] rfl ?_
  refine S.sil 5 rfl rfl (fun _ hF => .move (lk 1 rfl rfl)) ?_
  refine S.sil 6 rfl rfl (fun _ hF => .move (lk 3 rfl rfl)) ?_
  obtain ⟨r3, m3, h⟩ := h.bnd
  refine S.eff 7 rfl rfl (.nf (v2 := (V.int .i64) r3.1) (H2 := [.cells ((V.int .i64) r3.2)]) (.callH ent96 cF [0] (C_slices_IndexFunc_Field_Fits_1 m3) (by decide) (.cons (lt_cells ((TyOk.int .i64).lt _ _)) rfl (RSub.trans (.refl _) (.eq ((TyOk.int .i64).cl _ _).symm)) .nil) (ltL_c (ty_S_TField.lt _ _) (ltL_c (lt_fn ltL_nil (ltL_c rfl ltL_nil)) ltL_nil)) (.c (lk 1 rfl rfl) (vsubr (V.sub.refl _) (ty_S_TField.lt _ _)) (.c (lk 0 rfl rfl) (subren (ren_fn rfl (renL_c rfl rfl))) .nil)) ((TyOk.int .i64).cl _ _) (mapc (ren_cells ((TyOk.int .i64).cl _ _)) rfl) rfl) rfl rfl) trivial ?_
  refine S.sil 8 rfl rfl (fun _ hF => .geq (lk 0 rfl rfl) cI) ?_
  refine S.sil 4 rfl rfl (fun _ hF => .assign (lk 0 rfl rfl)) ?_
  refine S.nil ?_
  refine thenQ_n ?_
  refine AWp.ret ?_
  obtain rfl := h.ret
  exact endF1 rfl (Wk.selS [0] (by decide) rfl (SelE.leaf (lk 0 rfl rfl) rfl (.refl _) (fun m => (TyOk.bool.lt _ _)) .nil) (.cons (lt_cells ((TyOk.int .i64).lt _ _)) rfl (RSub.trans (.refl _) (.eq ((TyOk.int .i64).cl _ _).symm)) .nil)) (.tmp (lk 0 rfl rfl) rfl) rfl rfl
theorem C_plan_Fits_2 {a1 : THold} {r : Bool} (h : plan_Fits_2 a1 = some r) : PureC Pg 93 [E_THold a1] (V.bool r) := by
  refine PureC.ofF (CallSpec.of_bodyF 6 0 fn93 rfl rfl rfl (Nat.le_of_ble_eq_true rfl) ?_) (ltL_c (ty_THold.lt _ _) ltL_nil) (TyOk.bool.lt _ _)
  replace h := Ok.of h
  unfold plan_Fits_2 at h
  refine AWp.seq ?_
  refine W.reg [0, 1] rfl ?_
  refine S.eff 1 rfl rfl (.nf (v2 := .ptr 0 [] 0) (H2 := [.cells (E_THold a1)]) (.box (lk 0 rfl rfl) rfl) rfl rfl) trivial ?_
  refine S.sil 2 rfl rfl (fun _ hF => .assign cB) ?_
  refine S.nil ?_
  refine thenQ_n ?_
  refine AWp.wk (Wk.freeze 0 rfl rfl (.same (lk 0 rfl rfl) (.cons (lk 1 rfl rfl) rfl (.ptr .nil (by first | rfl | omega)) .nil)) (.refl _)) ?_
  refine AWp.seq ?_
  refine W.reg [0, 1, 2, 3] rfl ?_
  refine S.sil 3 rfl rfl (fun _ hF => .fieldAddrC lay66 rfl rfl (lk 1 rfl rfl) rfl (flL_c (show flen _ = 1 from rfl) (flL_c (show flen _ = 1 from rfl) (flL_c (show flen _ = 1 from rfl) (flL_c (show flen _ = 1 from rfl) flL_nil))))) ?_
  refine S.sil 4 rfl rfl (fun _ hF => .loadC sz3 ag3 (lk 0 rfl rfl) rfl rfl) ?_
  refine S.sil 5 rfl rfl (fun _ hF => .eql (lk 0 rfl rfl) cI) ?_
  refine S.sil 2 rfl rfl (fun _ hF => .assign (lk 0 rfl rfl)) ?_
  refine S.nil ?_
  refine thenQ_n ?_
  refine AWp.ret ?_
  obtain rfl := h.ret
  exact endF1 rfl (Wk.selS [] .nil rfl (SelE.leaf (lk 0 rfl rfl) rfl (.refl _) (fun m => (TyOk.bool.lt _ _)) .nil) .nil) (.tmp (lk 0 rfl rfl) rfl) rfl rfl
theorem C_slices_IndexFunc_Hold_Fits_2 {a1 : List THold} {r : Int} (h : slices_IndexFunc_Hold_Fits_2 a1 = some r) : PureC Pg 136 [.sl 5 .no (List.map E_THold a1), .fn 93 [] []] ((V.int .i64) r) := by
  refine PureC.ofF (CallSpec.of_bodyF 19 0 fn136 rfl rfl rfl (Nat.le_of_ble_eq_true rfl) ?_) (ltL_c (lt_sl rfl (ty_THold.ltm _ _)) (ltL_c (lt_fn ltL_nil ltL_nil) ltL_nil)) ((TyOk.int .i64).lt _ _)
  replace h := Ok.of h
  unfold slices_IndexFunc_Hold_Fits_2 at h
  refine AWp.seq ?_
  refine W.reg [0] rfl ?_
  refine S.sil 4 rfl rfl (fun _ hF => .assign cI) ?_
  refine S.nil ?_
  refine thenQ_n ?_
  refine AWp.seq ?_
  refine AWp.seq ?_
  refine W.reg [0, 1, 2] rfl ?_
  refine S.sil 6 rfl rfl (fun _ hF => .move (lk 1 rfl rfl)) ?_
  refine S.sil 7 rfl rfl (fun _ hF => .lenT sli31 (lk 0 rfl rfl) (vsub rfl (.refl _))) ?_
  refine S.sil 8 rfl rfl (fun _ hF => .move cI) ?_
  refine S.nil ?_
  refine thenQ_n ?_
  refine AWp.cutL (fun x4 => ⟨[(4, (V.int .i64) 0)], []⟩) nc_then h (fun q2 hq2 h => ?_) (fun x4 h => ?_)
  · refine AWp.block ?_
    refine AWp.loopT (fun s3 => ⟨[(8, (V.int .i64) s3), (7, (V.int .i64) (a1.length : Int)), (4, (V.int .i64) 0), (0, .sl 5 .no (List.map E_THold a1)), (1, .fn 93 [] [])], []⟩) hq2 (Wk.selS [] (by decide) rfl (SelE.leaf (lk 0 rfl rfl) rfl (.refl _) (fun m => ((TyOk.int .i64).lt _ _)) (SelE.leaf (lk 1 rfl rfl) rfl (.refl _) (fun m => ((TyOk.int .i64).lt _ _)) (SelE.leaf (lk 3 rfl rfl) rfl (.refl _) (fun m => ((TyOk.int .i64).lt _ _)) (SelE.leaf (lk 4 rfl rfl) rfl (.refl _) (fun m => (lt_sl rfl (ty_THold.ltm _ _))) (SelE.leaf (lk 5 rfl rfl) rfl (.refl _) (fun m => (lt_fn ltL_nil ltL_nil)) .nil))))) .nil) (fun _ s3 h2 => ?_)
    rw [slices_IndexFunc_Hold_Fits_2_L1] at h2
    refine AWp.seq ?_
    refine W.reg [0] rfl ?_
    refine S.sil 9 rfl rfl (fun _ hF => .lss (lk 0 rfl rfl) (lk 1 rfl rfl)) ?_
    refine S.nil ?_
    refine thenQ_n ?_
    refine AWp.seq ?_
    refine AWp.condM (lk 0 rfl rfl) h2 (fun c1 h2 => ?_) (fun c1 h2 => ?_)
    · skip
      refine AWp.skip ?_
      refine thenQ_n ?_
      refine AWp.seq ?_
      refine AWp.block ?_
      refine AWp.seq ?_
      refine W.reg [0, 1] rfl ?_
      refine S.sil 10 rfl rfl (fun _ hF => .move (lk 1 rfl rfl)) ?_
      refine S.sil 5 rfl rfl (fun _ hF => .assign (lk 0 rfl rfl)) ?_
      refine S.nil ?_
      refine thenQ_n ?_
      refine AWp.seq ?_
      refine W.reg [0, 1, 2, 3, 4, 5] rfl ?_
      refine S.sil 11 rfl rfl (fun _ hF => .move (lk 7 rfl rfl)) ?_
      refine S.sil 12 rfl rfl (fun _ hF => .move (lk 7 rfl rfl)) ?_
      refine S.sil 13 rfl rfl (fun _ hF => .move (lk 2 rfl rfl)) ?_
      obtain ⟨j5, m5, h2⟩ := h2.bnd
      refine S.sil 14 rfl rfl (fun _ hF => .ixS sli31 (lk 1 rfl rfl) (lk 0 rfl rfl) m5) ?_
      obtain ⟨v6, ev6, h2⟩ := h2.nam
      refine S.sil 15 rfl rfl (fun _ hF => .nv (.loadC sz66 ag66 (lk 0 rfl rfl) (ty_THold.fl (a1.getD j5 default)) rfl) (congrArg E_THold ev6.symm)) ?_
      obtain ⟨r7, m7, h2⟩ := h2.bnd
      refine S.sil 16 rfl rfl (fun _ hF => .callQ ent93 (lk 4 rfl rfl) (.c (lk 0 rfl rfl) (V.sub.refl _) .nil) (C_plan_Fits_2 m7)) ?_
      refine S.nil ?_
      refine thenQ_n ?_
      refine AWp.condM (lk 0 rfl rfl) h2 (fun c2 h2 => ?_) (fun c2 h2 => ?_)
      · skip
        refine AWp.seq ?_
        refine W.reg [0, 1] rfl ?_
        refine S.sil 17 rfl rfl (fun _ hF => .move (lk 6 rfl rfl)) ?_
        refine S.sil 4 rfl rfl (fun _ hF => .assign (lk 0 rfl rfl)) ?_
        refine S.nil ?_
        refine thenQ_n ?_
        refine AWp.ret ?_
        refine blockQ_r ?_
        refine thenQ_r ?_
        refine thenQ_r ?_
        refine blockQ_r ?_
        refine thenQ_r ?_
        refine thenQ_r ?_
        have h := Ok.inrq h h2.ret
        obtain rfl := h.ret
        exact endF1 rfl (Wk.selS [] .nil rfl (SelE.leaf (lk 0 rfl rfl) rfl (.refl _) (fun m => ((TyOk.int .i64).lt _ _)) .nil) .nil) (.tmp (lk 0 rfl rfl) rfl) rfl rfl
      · skip
        refine AWp.skip ?_
        refine blockQ_n ?_
        refine thenQ_n ?_
        refine W.reg [0, 1] rfl ?_
        refine S.sil 18 rfl rfl (fun _ hF => .add (lk 9 rfl rfl) cI) ?_
        refine S.sil 8 rfl rfl (fun _ hF => .move (lk 0 rfl rfl)) ?_
        refine S.nil ?_
        refine thenQ_n ?_
        exact ⟨_, h2.ret, (Wk.selS [] (by decide) rfl (SelE.leaf (lk 0 rfl rfl) rfl (.refl _) (fun m => ((TyOk.int .i64).lt _ _)) (SelE.leaf (lk 12 rfl rfl) rfl (.refl _) (fun m => ((TyOk.int .i64).lt _ _)) (SelE.leaf (lk 13 rfl rfl) rfl (.refl _) (fun m => ((TyOk.int .i64).lt _ _)) (SelE.leaf (lk 14 rfl rfl) rfl (.refl _) (fun m => (lt_sl rfl (ty_THold.ltm _ _))) (SelE.leaf (lk 15 rfl rfl) rfl (.refl _) (fun m => (lt_fn ltL_nil ltL_nil)) .nil))))) .nil)⟩
    · skip
      refine AWp.exit ?_
      refine thenQ_x ?_
      refine thenQ_x ?_
      refine blockQ_x ?_
      refine thenQ_n ?_
      exact ⟨_, h2.ret, (Wk.selS [] (by decide) rfl (SelE.leaf (lk 3 rfl rfl) rfl (.refl _) (fun m => ((TyOk.int .i64).lt _ _)) .nil) .nil)⟩
  · skip
    refine thenQ_n ?_
    refine AWp.seq ?_
    refine W.reg [0] rfl ?_
    refine S.sil 4 rfl rfl (fun _ hF => .assign cI) ?_
    refine S.nil ?_
    refine thenQ_n ?_
    refine AWp.ret ?_
    obtain rfl := h.ret
    exact endF1 rfl (Wk.selS [] .nil rfl (SelE.leaf (lk 0 rfl rfl) rfl (.refl _) (fun m => ((TyOk.int .i64).lt _ _)) .nil) .nil) (.tmp (lk 0 rfl rfl) rfl) rfl rfl
theorem C_slices_ContainsFunc_Hold_Fits_2 {a1 : List THold} {r : Bool} (h : slices_ContainsFunc_Hold_Fits_2 a1 = some r) : PureC Pg 95 [.sl 5 .no (List.map E_THold a1), .fn 93 [] []] (V.bool r) := by
  refine PureC.ofF (CallSpec.of_bodyF 9 0 fn95 rfl rfl rfl (Nat.le_of_ble_eq_true rfl) ?_) (ltL_c (lt_sl rfl (ty_THold.ltm _ _)) (ltL_c (lt_fn ltL_nil ltL_nil) ltL_nil)) (TyOk.bool.lt _ _)
  replace h := Ok.of h
  unfold slices_ContainsFunc_Hold_Fits_2 at h
  refine AWp.seq ?_
  refine W.reg [0] rfl ?_
  refine S.sil 4 rfl rfl (fun _ hF => .assign cB) ?_
  refine S.nil ?_
  refine thenQ_n ?_
  refine AWp.seq ?_
  refine W.reg [0, 1, 2, 3, 4] rfl ?_
  refine S.sil 5 rfl rfl (fun _ hF => .move (lk 1 rfl rfl)) ?_
  refine S.sil 6 rfl rfl (fun _ hF => .move (lk 3 rfl rfl)) ?_
  obtain ⟨r2, m2, h⟩ := h.bnd
  refine S.sil 7 rfl rfl (fun _ hF => .callQ ent136 cF (.c (lk 1 rfl rfl) (V.sub.refl _) (.c (lk 0 rfl rfl) (V.sub.refl _) .nil)) (C_slices_IndexFunc_Hold_Fits_2 m2)) ?_
  refine S.sil 8 rfl rfl (fun _ hF => .geq (lk 0 rfl rfl) cI) ?_
  refine S.sil 4 rfl rfl (fun _ hF => .assign (lk 0 rfl rfl)) ?_
  refine S.nil ?_
  refine thenQ_n ?_
  refine AWp.ret ?_
  obtain rfl := h.ret
  exact endF1 rfl (Wk.selS [] .nil rfl (SelE.leaf (lk 0 rfl rfl) rfl (.refl _) (fun m => (TyOk.bool.lt _ _)) .nil) .nil) (.tmp (lk 0 rfl rfl) rfl) rfl rfl
theorem C_plan_Fits_3_Fits_2 {a1 : TField} {r : Bool} (h : plan_Fits_3_Fits_2 a1 = some r) : PureC Pg 94 [E_TField a1, .cptr (.fn 93 [] [])] (V.bool r) := by
  refine PureC.ofF (CallSpec.of_bodyF 8 0 fn94 rfl rfl rfl (Nat.le_of_ble_eq_true rfl) ?_) (ltL_c (ty_TField.lt _ _) (ltL_c (lt_cptr (lt_fn ltL_nil ltL_nil)) ltL_nil)) (TyOk.bool.lt _ _)
  replace h := Ok.of h
  unfold plan_Fits_3_Fits_2 at h
  refine AWp.seq ?_
  refine W.reg [0, 1] rfl ?_
  refine S.eff 2 rfl rfl (.nf (v2 := .ptr 0 [] 0) (H2 := [.cells (E_TField a1)]) (.box (lk 0 rfl rfl) rfl) rfl rfl) trivial ?_
  refine S.sil 3 rfl rfl (fun _ hF => .assign cB) ?_
  refine S.nil ?_
  refine thenQ_n ?_
  refine AWp.wk (Wk.freeze 0 rfl rfl (.same (lk 0 rfl rfl) (.cons (lk 1 rfl rfl) rfl (.ptr .nil (by first | rfl | omega)) (.same (lk 3 rfl rfl) .nil))) (.refl _)) ?_
  refine AWp.seq ?_
  refine W.reg [0, 1, 2, 3, 4] rfl ?_
  refine S.sil 4 rfl rfl (fun _ hF => .fieldAddrC lay33 rfl rfl (lk 1 rfl rfl) rfl (flL_c (show flen _ = 1 from rfl) (flL_c (show flen _ = 1 from rfl) (flL_c (show flen _ = 1 from rfl) (flL_c (ty_TCounter.fl a1.Counter) (flL_c (ty_TLock.fl a1.Lock) flL_nil)))))) ?_
  refine S.sil 5 rfl rfl (fun _ hF => .loadC sz31 ag31 (lk 0 rfl rfl) rfl rfl) ?_
  refine S.sil 6 rfl rfl (fun _ hF => .loadC sz112 ag112 (lk 4 rfl rfl) rfl rfl) ?_
  obtain ⟨r2, m2, h⟩ := h.bnd
  refine S.sil 7 rfl rfl (fun _ hF => .callQ ent95 cF (.c (lk 1 rfl rfl) (V.sub.refl _) (.c (lk 0 rfl rfl) (V.sub.refl _) .nil)) (C_slices_ContainsFunc_Hold_Fits_2 m2)) ?_
  refine S.sil 3 rfl rfl (fun _ hF => .assign (lk 0 rfl rfl)) ?_
  refine S.nil ?_
  refine thenQ_n ?_
  refine AWp.ret ?_
  obtain rfl := h.ret
  exact endF1 rfl (Wk.selS [] .nil rfl (SelE.leaf (lk 0 rfl rfl) rfl (.refl _) (fun m => (TyOk.bool.lt _ _)) .nil) .nil) (.tmp (lk 0 rfl rfl) rfl) rfl rfl
theorem C_slices_IndexFunc_Field_Fits_3_Fits_2 {a1 : List TField} {r : Int} (h : slices_IndexFunc_Field_Fits_3_Fits_2 a1 = some r) : PureC Pg 96 [.sl 587 .no (List.map E_TField a1), .fn 94 [] [.cptr (.fn 93 [] [])]] ((V.int .i64) r) := by
  refine PureC.ofF (CallSpec.of_bodyF 19 0 fn96 rfl rfl rfl (Nat.le_of_ble_eq_true rfl) ?_) (ltL_c (lt_sl rfl (ty_TField.ltm _ _)) (ltL_c (lt_fn ltL_nil (ltL_c (lt_cptr (lt_fn ltL_nil ltL_nil)) ltL_nil)) ltL_nil)) ((TyOk.int .i64).lt _ _)
  replace h := Ok.of h
  unfold slices_IndexFunc_Field_Fits_3_Fits_2 at h
  refine AWp.seq ?_
  refine W.reg [0] rfl ?_
  refine S.sil 4 rfl rfl (fun _ hF => .assign cI) ?_
  refine S.nil ?_
  refine thenQ_n ?_
  refine AWp.seq ?_
  refine AWp.seq ?_
  refine W.reg [0, 1, 2] rfl ?_
  refine S.sil 6 rfl rfl (fun _ hF => .move (lk 1 rfl rfl)) ?_
  refine S.sil 7 rfl rfl (fun _ hF => .lenT sli49 (lk 0 rfl rfl) (vsub rfl (.refl _))) ?_
  refine S.sil 8 rfl rfl (fun _ hF => .move cI) ?_
  refine S.nil ?_
  refine thenQ_n ?_
  refine AWp.cutL (fun x4 => ⟨[(4, (V.int .i64) 0)], []⟩) nc_then h (fun q2 hq2 h => ?_) (fun x4 h => ?_)
  · refine AWp.block ?_
    refine AWp.loopT (fun s3 => ⟨[(8, (V.int .i64) s3), (7, (V.int .i64) (a1.length : Int)), (4, (V.int .i64) 0), (0, .sl 587 .no (List.map E_TField a1)), (1, .fn 94 [] [.cptr (.fn 93 [] [])])], []⟩) hq2 (Wk.selS [] (by decide) rfl (SelE.leaf (lk 0 rfl rfl) rfl (.refl _) (fun m => ((TyOk.int .i64).lt _ _)) (SelE.leaf (lk 1 rfl rfl) rfl (.refl _) (fun m => ((TyOk.int .i64).lt _ _)) (SelE.leaf (lk 3 rfl rfl) rfl (.refl _) (fun m => ((TyOk.int .i64).lt _ _)) (SelE.leaf (lk 4 rfl rfl) rfl (.refl _) (fun m => (lt_sl rfl (ty_TField.ltm _ _))) (SelE.leaf (lk 5 rfl rfl) rfl (.refl _) (fun m => (lt_fn ltL_nil (ltL_c (lt_cptr (lt_fn ltL_nil ltL_nil)) ltL_nil))) .nil))))) .nil) (fun _ s3 h2 => ?_)
    rw [slices_IndexFunc_Field_Fits_3_Fits_2_L1] at h2
    refine AWp.seq ?_
    refine W.reg [0] rfl ?_
    refine S.sil 9 rfl rfl (fun _ hF => .lss (lk 0 rfl rfl) (lk 1 rfl rfl)) ?_
    refine S.nil ?_
    refine thenQ_n ?_
    refine AWp.seq ?_
    refine AWp.condM (lk 0 rfl rfl) h2 (fun c1 h2 => ?_) (fun c1 h2 => ?_)
    · skip
      refine AWp.skip ?_
      refine thenQ_n ?_
      refine AWp.seq ?_
      refine AWp.block ?_
      refine AWp.seq ?_
      refine W.reg [0, 1] rfl ?_
      refine S.sil 10 rfl rfl (fun _ hF => .move (lk 1 rfl rfl)) ?_
      refine S.sil 5 rfl rfl (fun _ hF => .assign (lk 0 rfl rfl)) ?_
      refine S.nil ?_
      refine thenQ_n ?_
      refine AWp.seq ?_
      refine W.reg [0, 1, 2, 3, 4, 5] rfl ?_
      refine S.sil 11 rfl rfl (fun _ hF => .move (lk 7 rfl rfl)) ?_
      refine S.sil 12 rfl rfl (fun _ hF => .move (lk 7 rfl rfl)) ?_
      refine S.sil 13 rfl rfl (fun _ hF => .move (lk 2 rfl rfl)) ?_
      obtain ⟨j5, m5, h2⟩ := h2.bnd
      refine S.sil 14 rfl rfl (fun _ hF => .ixS sli49 (lk 1 rfl rfl) (lk 0 rfl rfl) m5) ?_
      obtain ⟨v6, ev6, h2⟩ := h2.nam
      refine S.sil 15 rfl rfl (fun _ hF => .nv (.loadC sz33 ag33 (lk 0 rfl rfl) (ty_TField.fl (a1.getD j5 default)) rfl) (congrArg E_TField ev6.symm)) ?_
      obtain ⟨r7, m7, h2⟩ := h2.bnd
      refine S.sil 16 rfl rfl (fun _ hF => .callQ ent94 (lk 4 rfl rfl) (.c (lk 0 rfl rfl) (V.sub.refl _) (.cons (.refl _) .nil)) (C_plan_Fits_3_Fits_2 m7)) ?_
      refine S.nil ?_
      refine thenQ_n ?_
      refine AWp.condM (lk 0 rfl rfl) h2 (fun c2 h2 => ?_) (fun c2 h2 => ?_)
      · skip
        refine AWp.seq ?_
        refine W.reg [0, 1] rfl ?_
        refine S.sil 17 rfl rfl (fun _ hF => .move (lk 6 rfl rfl)) ?_
        refine S.sil 4 rfl rfl (fun _ hF => .assign (lk 0 rfl rfl)) ?_
        refine S.nil ?_
        refine thenQ_n ?_
        refine AWp.ret ?_
        refine blockQ_r ?_
        refine thenQ_r ?_
        refine thenQ_r ?_
        refine blockQ_r ?_
        refine thenQ_r ?_
        refine thenQ_r ?_
        have h := Ok.inrq h h2.ret
        obtain rfl := h.ret
        exact endF1 rfl (Wk.selS [] .nil rfl (SelE.leaf (lk 0 rfl rfl) rfl (.refl _) (fun m => ((TyOk.int .i64).lt _ _)) .nil) .nil) (.tmp (lk 0 rfl rfl) rfl) rfl rfl
      · skip
        refine AWp.skip ?_
        refine blockQ_n ?_
        refine thenQ_n ?_
        refine W.reg [0, 1] rfl ?_
        refine S.sil 18 rfl rfl (fun _ hF => .add (lk 9 rfl rfl) cI) ?_
        refine S.sil 8 rfl rfl (fun _ hF => .move (lk 0 rfl rfl)) ?_
        refine S.nil ?_
        refine thenQ_n ?_
        exact ⟨_, h2.ret, (Wk.selS [] (by decide) rfl (SelE.leaf (lk 0 rfl rfl) rfl (.refl _) (fun m => ((TyOk.int .i64).lt _ _)) (SelE.leaf (lk 12 rfl rfl) rfl (.refl _) (fun m => ((TyOk.int .i64).lt _ _)) (SelE.leaf (lk 13 rfl rfl) rfl (.refl _) (fun m => ((TyOk.int .i64).lt _ _)) (SelE.leaf (lk 14 rfl rfl) rfl (.refl _) (fun m => (lt_sl rfl (ty_TField.ltm _ _))) (SelE.leaf (lk 15 rfl rfl) rfl (.refl _) (fun m => (lt_fn ltL_nil (ltL_c (lt_cptr (lt_fn ltL_nil ltL_nil)) ltL_nil))) .nil))))) .nil)⟩
    · skip
      refine AWp.exit ?_
      refine thenQ_x ?_
      refine thenQ_x ?_
      refine blockQ_x ?_
      refine thenQ_n ?_
      exact ⟨_, h2.ret, (Wk.selS [] (by decide) rfl (SelE.leaf (lk 3 rfl rfl) rfl (.refl _) (fun m => ((TyOk.int .i64).lt _ _)) .nil) .nil)⟩
  · skip
    refine thenQ_n ?_
    refine AWp.seq ?_
    refine W.reg [0] rfl ?_
    refine S.sil 4 rfl rfl (fun _ hF => .assign cI) ?_
    refine S.nil ?_
    refine thenQ_n ?_
    refine AWp.ret ?_
    obtain rfl := h.ret
    exact endF1 rfl (Wk.selS [] .nil rfl (SelE.leaf (lk 0 rfl rfl) rfl (.refl _) (fun m => ((TyOk.int .i64).lt _ _)) .nil) .nil) (.tmp (lk 0 rfl rfl) rfl) rfl rfl
theorem C_slices_ContainsFunc_Field_Fits_3_Fits_2 {a1 : List TField} {r : Bool} (h : slices_ContainsFunc_Field_Fits_3_Fits_2 a1 = some r) : PureC Pg 91 [.sl 587 .no (List.map E_TField a1), .fn 94 [] [.cptr (.fn 93 [] [])]] (V.bool r) := by
  refine PureC.ofF (CallSpec.of_bodyF 9 0 fn91 rfl rfl rfl (Nat.le_of_ble_eq_true rfl) ?_) (ltL_c (lt_sl rfl (ty_TField.ltm _ _)) (ltL_c (lt_fn ltL_nil (ltL_c (lt_cptr (lt_fn ltL_nil ltL_nil)) ltL_nil)) ltL_nil)) (TyOk.bool.lt _ _)
  replace h := Ok.of h
  unfold slices_ContainsFunc_Field_Fits_3_Fits_2 at h
  refine AWp.seq ?_
  refine W.reg [0] rfl ?_
  refine S.sil 4 rfl rfl (fun _ hF => .assign cB) ?_
  refine S.nil ?_
  refine thenQ_n ?_
  refine AWp.seq ?_
  refine W.reg [0, 1, 2, 3, 4] rfl ?_
  refine S.sil 5 rfl rfl (fun _ hF => .move (lk 1 rfl rfl)) ?_
  refine S.sil 6 rfl rfl (fun _ hF => .move (lk 3 rfl rfl)) ?_
  obtain ⟨r2, m2, h⟩ := h.bnd
  refine S.sil 7 rfl rfl (fun _ hF => .callQ ent96 cF (.c (lk 1 rfl rfl) (V.sub.refl _) (.c (lk 0 rfl rfl) (V.sub.refl _) .nil)) (C_slices_IndexFunc_Field_Fits_3_Fits_2 m2)) ?_
  refine S.sil 8 rfl rfl (fun _ hF => .geq (lk 0 rfl rfl) cI) ?_
  refine S.sil 4 rfl rfl (fun _ hF => .assign (lk 0 rfl rfl)) ?_
  refine S.nil ?_
  refine thenQ_n ?_
  refine AWp.ret ?_
  obtain rfl := h.ret
  exact endF1 rfl (Wk.selS [] .nil rfl (SelE.leaf (lk 0 rfl rfl) rfl (.refl _) (fun m => (TyOk.bool.lt _ _)) .nil) .nil) (.tmp (lk 0 rfl rfl) rfl) rfl rfl
theorem C_plan_Fits {a1 : List TField} {a2 : TPlan} {r : Int} (h : plan_Fits a1 a2 = some r) : PureC Pg 47 [.sl 587 .no (List.map E_TField a1), E_TPlan a2] ((V.int .i64) r) := by
  refine PureC.ofF (CallSpec.of_bodyF 70 0 fn47 rfl rfl rfl (Nat.le_of_ble_eq_true rfl) ?_) (ltL_c (lt_sl rfl (ty_TField.ltm _ _)) (ltL_c (ty_TPlan.lt _ _) ltL_nil)) ((TyOk.int .i64).lt _ _)
  replace h := Ok.of h
  unfold plan_Fits at h
  refine AWp.seq ?_
  refine W.reg [0, 1] rfl ?_
  refine S.eff 3 rfl rfl (.nf (v2 := .ptr 0 [] 0) (H2 := [.cells (E_TPlan a2)]) (.box (lk 1 rfl rfl) rfl) rfl rfl) trivial ?_
  refine S.sil 4 rfl rfl (fun _ hF => .assign cI) ?_
  refine S.nil ?_
  refine thenQ_n ?_
  refine AWp.wk (Wk.freeze 0 rfl rfl (.same (lk 0 rfl rfl) (.cons (lk 1 rfl rfl) rfl (.ptr .nil (by first | rfl | omega)) (.same (lk 2 rfl rfl) .nil))) (.refl _)) ?_
  refine AWp.seq ?_
  refine AWp.block ?_
  refine AWp.seq ?_
  refine W.reg [0, 1, 2, 3] rfl ?_
  refine S.sil 15 rfl rfl (fun _ hF => .move (lk 2 rfl rfl)) ?_
  obtain ⟨r3, m3, h⟩ := h.bnd
  refine S.sil 16 rfl rfl (fun _ hF => .callQ ent88 cF (.c (lk 0 rfl rfl) (V.sub.refl _) .nil) (C_plan_Fields m3)) ?_
  refine S.sil 17 rfl rfl (fun _ hF => .not (lk 0 rfl rfl)) ?_
  refine S.sil 14 rfl rfl (fun _ hF => .assign (lk 0 rfl rfl)) ?_
  refine S.nil ?_
  refine thenQ_n ?_
  refine AWp.condM (lk 0 rfl rfl) h (fun c1 h => ?_) (fun c1 h => ?_)
  · skip
    refine AWp.seq ?_
    refine W.reg [0] rfl ?_
    refine S.sil 4 rfl rfl (fun _ hF => .assign cI) ?_
    refine S.nil ?_
    refine thenQ_n ?_
    refine AWp.ret ?_
    refine blockQ_r ?_
    refine thenQ_r ?_
    obtain rfl := h.ret
    exact endF1 rfl (Wk.selS [] .nil rfl (SelE.leaf (lk 0 rfl rfl) rfl (.refl _) (fun m => ((TyOk.int .i64).lt _ _)) .nil) .nil) (.tmp (lk 0 rfl rfl) rfl) rfl rfl
  · skip
    refine AWp.seq ?_
    refine W.reg [0, 1, 2, 3] rfl ?_
    refine S.sil 19 rfl rfl (fun _ hF => .loadC sz51 ag51 (lk 5 rfl rfl) (ty_TPlan.fl a2) rfl) ?_
    obtain ⟨r4, m4, h⟩ := h.bnd
    refine S.sil 20 rfl rfl (fun _ hF => .callQ ent89 cF (.c (lk 0 rfl rfl) (V.sub.refl _) .nil) (C_plan_Right m4)) ?_
    refine S.sil 21 rfl rfl (fun _ hF => .not (lk 0 rfl rfl)) ?_
    refine S.sil 18 rfl rfl (fun _ hF => .assign (lk 0 rfl rfl)) ?_
    refine S.nil ?_
    refine thenQ_n ?_
    refine AWp.condM (lk 0 rfl rfl) h (fun c2 h => ?_) (fun c2 h => ?_)
    · skip
      refine AWp.seq ?_
      refine W.reg [0] rfl ?_
      refine S.sil 4 rfl rfl (fun _ hF => .assign cI) ?_
      refine S.nil ?_
      refine thenQ_n ?_
      refine AWp.ret ?_
      refine blockQ_r ?_
      refine thenQ_r ?_
      obtain rfl := h.ret
      exact endF1 rfl (Wk.selS [] .nil rfl (SelE.leaf (lk 0 rfl rfl) rfl (.refl _) (fun m => ((TyOk.int .i64).lt _ _)) .nil) .nil) (.tmp (lk 0 rfl rfl) rfl) rfl rfl
    · skip
      refine AWp.skip ?_
      refine blockQ_n ?_
      refine thenQ_n ?_
      refine AWp.seq ?_
      refine W.reg [0] rfl ?_
      refine S.sil 5 rfl rfl (fun _ hF => .assign cNs) ?_
      refine S.nil ?_
      refine thenQ_n ?_
      refine AWp.seq ?_
      refine AWp.seq ?_
      refine W.reg [0, 1, 2, 3] rfl ?_
      refine S.sil 22 rfl rfl (fun _ hF => .loadC sz51 ag51 (lk 10 rfl rfl) (ty_TPlan.fl a2) rfl) ?_
      obtain ⟨r5, m5, h⟩ := h.bnd
      refine S.sil 23 rfl rfl (fun _ hF => .callQ ent90 cF (.c (lk 0 rfl rfl) (V.sub.refl _) .nil) (C_plan_names m5)) ?_
      refine S.sil 24 rfl rfl (fun _ hF => .lenT sli120 (lk 0 rfl rfl) (vsub rfl (.refl _))) ?_
      refine S.sil 25 rfl rfl (fun _ hF => .move cI) ?_
      refine S.nil ?_
      refine thenQ_n ?_
      refine AWp.cutL (fun x8 => ⟨[(5, .sl 587 (.tok 0) (List.map E_TField x8)), (4, (V.int .i64) 0), (3, .cptr (E_TPlan a2)), (0, .sl 587 .no (List.map E_TField a1))], [.tail]⟩) nc_then h (fun q6 hq6 h => ?_) (fun x8 h => ?_)
      · refine AWp.block ?_
        refine AWp.loopT (fun s7 => ⟨[(25, (V.int .i64) s7.1), (24, (V.int .i64) (r5.length : Int)), (23, .sl 1 .no (List.map V.str r5)), (5, .sl 587 (.tok 0) (List.map E_TField s7.2)), (4, (V.int .i64) 0), (3, .cptr (E_TPlan a2)), (0, .sl 587 .no (List.map E_TField a1))], [.tail]⟩) hq6 (Wk.vacant.trans (Wk.selS [1] (by decide) rfl (SelE.leaf (lk 0 rfl rfl) rfl (.refl _) (fun m => ((TyOk.int .i64).lt _ _)) (SelE.leaf (lk 1 rfl rfl) rfl (.refl _) (fun m => ((TyOk.int .i64).lt _ _)) (SelE.leaf (lk 2 rfl rfl) rfl (.refl _) (fun m => (lt_sl rfl (TyOk.str.ltm _ _))) (SelE.spec (lk 4 rfl rfl) rfl (.nils_tok _ _) (ren_sl ty_TField _) (lt_sl rfl (ty_TField.ltm _ _)) (SelE.leaf (lk 13 rfl rfl) rfl (.refl _) (fun m => ((TyOk.int .i64).lt _ _)) (SelE.leaf (lk 14 rfl rfl) rfl (.refl _) (fun m => (lt_cptr (ty_TPlan.lt _ _))) (SelE.leaf (lk 15 rfl rfl) rfl (.refl _) (fun m => (lt_sl rfl (ty_TField.ltm _ _))) .nil))))))) (.cons rfl rfl trivial .nil))) (fun _ s7 h6 => ?_)
        rw [plan_Fits_L1] at h6
        refine AWp.seq ?_
        refine W.reg [0] rfl ?_
        refine S.sil 26 rfl rfl (fun _ hF => .lss (lk 0 rfl rfl) (lk 1 rfl rfl)) ?_
        refine S.nil ?_
        refine thenQ_n ?_
        refine AWp.seq ?_
        refine AWp.condM (lk 0 rfl rfl) h6 (fun c3 h6 => ?_) (fun c3 h6 => ?_)
        · skip
          refine AWp.skip ?_
          refine thenQ_n ?_
          refine AWp.seq ?_
          refine AWp.block ?_
          refine AWp.seq ?_
          refine W.reg [0, 1, 2] rfl ?_
          obtain ⟨j9, m9, h6⟩ := h6.bnd
          refine S.sil 27 rfl rfl (fun _ hF => .ixS sli120 (lk 3 rfl rfl) (lk 1 rfl rfl) m9) ?_
          refine S.sil 28 rfl rfl (fun _ hF => .loadC sz9 ag9 (lk 0 rfl rfl) rfl rfl) ?_
          refine S.sil 7 rfl rfl (fun _ hF => .assign (lk 0 rfl rfl)) ?_
          refine S.nil ?_
          refine thenQ_n ?_
          refine AWp.seq ?_
          refine W.reg [0, 1, 2, 3, 4, 5, 6, 7] rfl ?_
          refine S.sil 30 rfl rfl (fun _ hF => .move (lk 10 rfl rfl)) ?_
          refine S.sil 31 rfl rfl (fun _ hF => .move (lk 1 rfl rfl)) ?_
          obtain ⟨r10, m10, h6⟩ := h6.bnd
          refine S.sil 32 rfl rfl (fun _ hF => .callQ ent48 cF (.c (lk 1 rfl rfl) (V.sub.refl _) (.c (lk 0 rfl rfl) (V.sub.refl _) .nil)) (C_plan_Find m10)) ?_
          refine S.sil 29 rfl rfl (fun _ hF => .move (lk 0 rfl rfl)) ?_
          refine S.sil 33 rfl rfl (fun _ hF => .extract (lk 0 rfl rfl) rfl) ?_
          refine S.sil 34 rfl rfl (fun _ hF => .extract (lk 1 rfl rfl) rfl) ?_
          refine S.sil 8 rfl rfl (fun _ hF => .assign (lk 1 rfl rfl)) ?_
          refine S.sil 9 rfl rfl (fun _ hF => .assign (lk 1 rfl rfl)) ?_
          refine S.nil ?_
          refine thenQ_n ?_
          refine AWp.seq ?_
          refine AWp.seq ?_
          refine W.reg [0, 1] rfl ?_
          refine S.sil 35 rfl rfl (fun _ hF => .move (lk 0 rfl rfl)) ?_
          refine S.sil 36 rfl rfl (fun _ hF => .not (lk 0 rfl rfl)) ?_
          refine S.nil ?_
          refine thenQ_n ?_
          refine AWp.condM (lk 0 rfl rfl) h6 (fun c4 h6 => ?_) (fun c4 h6 => ?_)
          · skip
            refine AWp.seq ?_
            refine W.reg [0] rfl ?_
            refine S.sil 4 rfl rfl (fun _ hF => .assign cI) ?_
            refine S.nil ?_
            refine thenQ_n ?_
            refine AWp.ret ?_
            refine thenQ_r ?_
            refine blockQ_r ?_
            refine thenQ_r ?_
            refine thenQ_r ?_
            refine blockQ_r ?_
            refine thenQ_r ?_
            refine thenQ_r ?_
            have h := Ok.inrq h h6.ret
            obtain rfl := h.ret
            exact endF1 rfl (Wk.selS [] .nil rfl (SelE.leaf (lk 0 rfl rfl) rfl (.refl _) (fun m => ((TyOk.int .i64).lt _ _)) .nil) .nil) (.tmp (lk 0 rfl rfl) rfl) rfl rfl
          · skip
            refine AWp.skip ?_
            refine thenQ_n ?_
            refine W.reg [0, 1, 2, 3, 4, 5, 6, 7] rfl ?_
            refine S.sil 37 rfl rfl (fun _ hF => .move (lk 17 rfl rfl)) ?_
            refine S.sil 38 rfl rfl (fun _ hF => .move (lk 21 rfl rfl)) ?_
            refine S.sil 39 rfl rfl (fun _ hF => .move (lk 5 rfl rfl)) ?_
            obtain ⟨j11, m11, h6⟩ := h6.bnd
            refine S.sil 40 rfl rfl (fun _ hF => .ixS sli49 (lk 1 rfl rfl) (lk 0 rfl rfl) m11) ?_
            obtain ⟨v12, ev12, h6⟩ := h6.nam
            refine S.sil 41 rfl rfl (fun _ hF => .nv (.loadC sz33 ag33 (lk 0 rfl rfl) (ty_TField.fl (a1.getD j11 default)) rfl) (congrArg E_TField ev12.symm)) ?_
            refine S.sil 42 rfl rfl (fun _ hF => .buildSliceW sli49 zv33 rfl rfl (by decide) (.cons (lk 0 rfl rfl) rfl (.refl _) (ty_TField.fl v12) .nil)) ?_
            obtain ⟨l13, m13, h6⟩ := h6.bnd
            refine S.eff 43 rfl rfl (.nf (v2 := .sl 587 (.tok 1) (List.map E_TField l13)) (H2 := [.dead, .tail]) (.appT sli49 und49 zv33 rfl (by decide) (lk 5 rfl rfl) rfl (lk 0 rfl rfl) Rd.sl m13 rfl) rfl rfl) trivial ?_
            refine S.sil 5 rfl rfl (fun _ hF => .assign (lk 0 rfl rfl)) ?_
            refine S.nil ?_
            refine blockQ_n ?_
            refine thenQ_n ?_
            refine W.reg [0, 1] rfl ?_
            refine S.sil 44 rfl rfl (fun _ hF => .add (lk 22 rfl rfl) cI) ?_
            refine S.sil 25 rfl rfl (fun _ hF => .move (lk 0 rfl rfl)) ?_
            refine S.nil ?_
            refine thenQ_n ?_
            exact ⟨_, h6.ret, (Wk.selS [1] (by decide) rfl (SelE.leaf (lk 0 rfl rfl) rfl (.refl _) (fun m => ((TyOk.int .i64).lt _ _)) (SelE.leaf (lk 25 rfl rfl) rfl (.refl _) (fun m => ((TyOk.int .i64).lt _ _)) (SelE.leaf (lk 26 rfl rfl) rfl (.refl _) (fun m => (lt_sl rfl (TyOk.str.ltm _ _))) (SelE.spec (lk 2 rfl rfl) rfl (.refl _) (ren_sl ty_TField _) (lt_sl rfl (ty_TField.ltm _ _)) (SelE.leaf (lk 28 rfl rfl) rfl (.refl _) (fun m => ((TyOk.int .i64).lt _ _)) (SelE.leaf (lk 29 rfl rfl) rfl (.refl _) (fun m => (lt_cptr (ty_TPlan.lt _ _))) (SelE.leaf (lk 30 rfl rfl) rfl (.refl _) (fun m => (lt_sl rfl (ty_TField.ltm _ _))) .nil))))))) (.cons rfl rfl trivial .nil))⟩
        · skip
          refine AWp.exit ?_
          refine thenQ_x ?_
          refine thenQ_x ?_
          refine blockQ_x ?_
          refine thenQ_n ?_
          exact ⟨_, h6.ret, (Wk.selS [0] (by decide) rfl (SelE.spec (lk 4 rfl rfl) rfl (.refl _) (ren_sl ty_TField _) (lt_sl rfl (ty_TField.ltm _ _)) (SelE.leaf (lk 5 rfl rfl) rfl (.refl _) (fun m => ((TyOk.int .i64).lt _ _)) (SelE.leaf (lk 6 rfl rfl) rfl (.refl _) (fun m => (lt_cptr (ty_TPlan.lt _ _))) (SelE.leaf (lk 7 rfl rfl) rfl (.refl _) (fun m => (lt_sl rfl (ty_TField.ltm _ _))) .nil)))) (.cons rfl rfl trivial .nil))⟩
      · skip
        refine thenQ_n ?_
        refine AWp.seq ?_
        refine AWp.seq ?_
        refine W.reg [0, 1, 2, 3, 4, 5, 6, 7, 8] rfl ?_
        refine S.sil 46 rfl rfl (fun _ hF => .move (lk 3 rfl rfl)) ?_
        refine S.sil 47 rfl rfl (fun _ hF => .fieldAddrC lay51 rfl rfl (lk 3 rfl rfl) rfl (flL_c (show flen _ = 1 from rfl) (flL_c (show flen _ = 1 from rfl) flL_nil))) ?_
        refine S.sil 48 rfl rfl (fun _ hF => .loadC sz9 ag9 (lk 0 rfl rfl) rfl rfl) ?_
        obtain ⟨r14, m14, h⟩ := h.bnd
        refine S.sil 49 rfl rfl (fun _ hF => .callQ ent48 cF (.c (lk 2 rfl rfl) (V.sub.refl _) (.c (lk 0 rfl rfl) (V.sub.refl _) .nil)) (C_plan_Find m14)) ?_
        refine S.sil 45 rfl rfl (fun _ hF => .move (lk 0 rfl rfl)) ?_
        refine S.sil 50 rfl rfl (fun _ hF => .extract (lk 0 rfl rfl) rfl) ?_
        refine S.sil 51 rfl rfl (fun _ hF => .extract (lk 1 rfl rfl) rfl) ?_
        refine S.sil 10 rfl rfl (fun _ hF => .assign (lk 1 rfl rfl)) ?_
        refine S.sil 11 rfl rfl (fun _ hF => .assign (lk 1 rfl rfl)) ?_
        refine S.nil ?_
        refine thenQ_n ?_
        refine AWp.seq ?_
        refine W.reg [0, 1, 2] rfl ?_
        refine S.sil 52 rfl rfl (fun _ hF => .fieldAddrC lay51 rfl rfl (lk 11 rfl rfl) rfl flL_nil) ?_
        refine S.sil 53 rfl rfl (fun _ hF => .loadC sz3 ag3 (lk 0 rfl rfl) rfl rfl) ?_
        refine S.sil 54 rfl rfl (fun _ hF => .eql (lk 0 rfl rfl) cI) ?_
        refine S.nil ?_
        refine thenQ_n ?_
        refine AWp.prune (.eq (lk 0 rfl rfl) rfl (.eq (lk 3 rfl rfl) rfl (.eq (lk 12 rfl rfl) rfl (.eq (lk 13 rfl rfl) rfl (.eq (lk 14 rfl rfl) rfl (.eq (lk 15 rfl rfl) rfl .nil)))))) ?_
        refine AWp.condM (lk 0 rfl rfl) h (fun c5 h => ?_) (fun c5 h => ?_)
        · skip
          refine AWp.block ?_
          refine AWp.seq ?_
          refine W.reg [0, 1] rfl ?_
          refine S.sil 56 rfl rfl (fun _ hF => .move (lk 1 rfl rfl)) ?_
          refine S.sil 55 rfl rfl (fun _ hF => .assign (lk 0 rfl rfl)) ?_
          refine S.nil ?_
          refine thenQ_n ?_
          refine AWp.condM (lk 0 rfl rfl) h (fun c6 h => ?_) (fun c6 h => ?_)
          · skip
            refine AWp.seq ?_
            refine W.reg [0] rfl ?_
            refine S.sil 4 rfl rfl (fun _ hF => .assign cI) ?_
            refine S.nil ?_
            refine thenQ_n ?_
            refine AWp.ret ?_
            refine blockQ_r ?_
            refine thenQ_r ?_
            obtain rfl := h.ret
            exact endF1 rfl (Wk.selS [] .nil rfl (SelE.leaf (lk 0 rfl rfl) rfl (.refl _) (fun m => ((TyOk.int .i64).lt _ _)) .nil) .nil) (.tmp (lk 0 rfl rfl) rfl) rfl rfl
          · skip
            refine AWp.seq ?_
            refine W.reg [0, 1, 2, 3] rfl ?_
            refine S.sil 58 rfl rfl (fun _ hF => .move (lk 7 rfl rfl)) ?_
            refine S.sil 59 rfl rfl (fun _ hF => .lenT sli49 (lk 0 rfl rfl) (vsub rfl (.refl _))) ?_
            refine S.sil 60 rfl rfl (fun _ hF => .eql (lk 0 rfl rfl) cI) ?_
            obtain ⟨v15, ev15, h⟩ := h.nam
            refine S.sil 57 rfl rfl (fun _ hF => .nv (.assign (lk 0 rfl rfl)) (congrArg V.bool ev15.symm)) ?_
            refine S.nil ?_
            refine thenQ_n ?_
            refine AWp.condM (lk 0 rfl rfl) h (fun c7 h => ?_) (fun c7 h => ?_)
            · skip
              refine AWp.seq ?_
              refine W.reg [0] rfl ?_
              refine S.sil 4 rfl rfl (fun _ hF => .assign cI) ?_
              refine S.nil ?_
              refine thenQ_n ?_
              refine AWp.prune (.eq (lk 0 rfl rfl) rfl (.eq (lk 9 rfl rfl) rfl (.eq (lk 11 rfl rfl) rfl .nil))) ?_
              refine AWp.ret ?_
              refine blockQ_r ?_
              refine thenQ_r ?_
              obtain rfl := h.ret
              exact endF1 rfl (Wk.selS [] .nil rfl (SelE.leaf (lk 0 rfl rfl) rfl (.refl _) (fun m => ((TyOk.int .i64).lt _ _)) .nil) .nil) (.tmp (lk 0 rfl rfl) rfl) rfl rfl
            · skip
              refine AWp.skip ?_
              refine blockQ_n ?_
              refine thenQ_n ?_
              refine AWp.seq ?_
              refine W.reg [0, 1] rfl ?_
              refine S.eff 12 rfl rfl (.nf (v2 := .ptr 1 [] 0) (H2 := [.tail, .cells ((V.int .i64) 0)]) (.alloc zv3) rfl rfl) trivial ?_
              refine S.effN rfl rfl (.nf (H2 := [.tail, .cells ((V.int .i64) 1)]) (.storeP sz3 (lk 0 rfl rfl) cI rfl (.refl _) rfl .nil (by first | rfl | omega) .nil rfl rfl rfl) rfl rfl) trivial ?_
              refine S.nil ?_
              refine thenQ_n ?_
              refine AWp.seq ?_
              refine AWp.seq ?_
              refine W.reg [0, 1, 2] rfl ?_
              refine S.sil 61 rfl rfl (fun _ hF => .fieldAddrC lay51 rfl rfl (lk 11 rfl rfl) rfl flL_nil) ?_
              refine S.sil 62 rfl rfl (fun _ hF => .loadC sz3 ag3 (lk 0 rfl rfl) rfl rfl) ?_
              refine S.sil 63 rfl rfl (fun _ hF => .eql (lk 0 rfl rfl) cI) ?_
              refine S.nil ?_
              refine thenQ_n ?_
              refine AWp.prune (.eq (lk 0 rfl rfl) rfl (.eq (lk 3 rfl rfl) rfl (.eq (lk 12 rfl rfl) rfl (.eq (lk 13 rfl rfl) rfl .nil)))) ?_
              refine AWp.condM (lk 0 rfl rfl) h (fun c8 h => ?_) (fun c8 h => ?_)
              · skip
                refine W.reg [0] rfl ?_
                refine S.effN rfl rfl (.nf (H2 := [.tail, .cells ((V.int .i64) 2)]) (.storeP sz3 (lk 1 rfl rfl) cI rfl (.refl _) rfl .nil (by first | rfl | omega) .nil rfl rfl rfl) rfl rfl) trivial ?_
                refine S.nil ?_
                refine thenQ_n ?_
                refine AWp.seq ?_
                refine AWp.seq ?_
                refine W.reg [0, 1, 2] rfl ?_
                refine S.sil 64 rfl rfl (fun _ hF => .move (lk 2 rfl rfl)) ?_
                refine S.sil 65 rfl rfl (fun _ hF => .makeFunc rfl (mapE1 (lk 2 rfl rfl)) rfl rfl) ?_
                obtain ⟨r16, m16, h⟩ := h.bnd
                refine S.eff 66 rfl rfl (.nf (v2 := V.bool r16.1) (H2 := [.tail, .cells ((V.int .i64) r16.2)]) (.callH ent91 cF [1] (C_slices_ContainsFunc_Field_Fits_1 m16) (by decide) (.cons (lt_cells ((TyOk.int .i64).lt _ _)) rfl (RSub.trans (.refl _) (.eq ((TyOk.int .i64).cl _ _).symm)) .nil) (ltL_c (ty_S_TField.lt _ _) (ltL_c (lt_fn ltL_nil (ltL_c rfl ltL_nil)) ltL_nil)) (.c (lk 1 rfl rfl) (vsubr (vsub rfl (.forget _ _ _)) (ty_S_TField.lt _ _)) (.c (lk 0 rfl rfl) (subren (ren_fn rfl (renL_c rfl rfl))) .nil)) (TyOk.bool.cl _ _) (mapc (ren_cells ((TyOk.int .i64).cl _ _)) rfl) rfl) rfl rfl) trivial ?_
                refine S.nil ?_
                refine thenQ_n ?_
                refine AWp.condM (lk 0 rfl rfl) h (fun c9 h => ?_) (fun c9 h => ?_)
                · skip
                  refine AWp.seq ?_
                  refine W.reg [0] rfl ?_
                  refine S.sil 4 rfl rfl (fun _ hF => .assign cI) ?_
                  refine S.nil ?_
                  refine thenQ_n ?_
                  refine AWp.ret ?_
                  refine thenQ_r ?_
                  obtain rfl := h.ret
                  exact endF1 rfl (Wk.selS [] .nil rfl (SelE.leaf (lk 0 rfl rfl) rfl (.refl _) (fun m => ((TyOk.int .i64).lt _ _)) .nil) .nil) (.tmp (lk 0 rfl rfl) rfl) rfl rfl
                · skip
                  refine AWp.skip ?_
                  refine thenQ_n ?_
                  refine AWp.seq ?_
                  refine W.reg [0, 1] rfl ?_
                  refine S.eff 13 rfl rfl (.nf (v2 := .ptr 2 [] 0) (H2 := [.tail, .cells ((V.int .i64) r16.2), .cells (.nilfn)]) (.alloc zv112) rfl rfl) trivial ?_
                  refine S.effN rfl rfl (.nf (H2 := [.tail, .cells ((V.int .i64) r16.2), .cells (.fn 93 [] [])]) (.storeP sz112 (lk 0 rfl rfl) cF rfl (.refl _) rfl .nil (by first | rfl | omega) .nil rfl rfl rfl) rfl rfl) trivial ?_
                  refine S.nil ?_
                  refine thenQ_n ?_
                  refine AWp.wk (Wk.freeze 2 rfl rfl (.cons (lk 0 rfl rfl) rfl (.ptr .nil (by first | rfl | omega)) (.same (lk 6 rfl rfl) (.same (lk 7 rfl rfl) .nil))) (.refl _)) ?_
                  refine AWp.seq ?_
                  refine AWp.seq ?_
                  refine W.reg [0, 1, 2] rfl ?_
                  refine S.sil 67 rfl rfl (fun _ hF => .move (lk 1 rfl rfl)) ?_
                  refine S.sil 68 rfl rfl (fun _ hF => .makeFunc rfl (mapE1 (lk 1 rfl rfl)) rfl rfl) ?_
                  obtain ⟨r17, m17, h⟩ := h.bnd
                  refine S.sil 69 rfl rfl (fun _ hF => .callQ ent91 cF (.c (lk 1 rfl rfl) (vsub rfl (.forget _ _ _)) (.c (lk 0 rfl rfl) (V.sub.refl _) .nil)) (C_slices_ContainsFunc_Field_Fits_3_Fits_2 m17)) ?_
                  refine S.nil ?_
                  refine thenQ_n ?_
                  refine AWp.condM (lk 0 rfl rfl) h (fun c10 h => ?_) (fun c10 h => ?_)
                  · skip
                    refine AWp.seq ?_
                    refine W.reg [0] rfl ?_
                    refine S.sil 4 rfl rfl (fun _ hF => .assign cI) ?_
                    refine S.nil ?_
                    refine thenQ_n ?_
                    refine AWp.ret ?_
                    refine thenQ_r ?_
                    obtain rfl := h.ret
                    exact endF1 rfl (Wk.selS [] .nil rfl (SelE.leaf (lk 0 rfl rfl) rfl (.refl _) (fun m => ((TyOk.int .i64).lt _ _)) .nil) .nil) (.tmp (lk 0 rfl rfl) rfl) rfl rfl
                  · skip
                    refine AWp.skip ?_
                    refine thenQ_n ?_
                    refine AWp.seq ?_
                    refine W.reg [0] rfl ?_
                    refine S.sil 4 rfl rfl (fun _ hF => .assign cI) ?_
                    refine S.nil ?_
                    refine thenQ_n ?_
                    refine AWp.ret ?_
                    obtain rfl := h.ret
                    exact endF1 rfl (Wk.selS [] .nil rfl (SelE.leaf (lk 0 rfl rfl) rfl (.refl _) (fun m => ((TyOk.int .i64).lt _ _)) .nil) .nil) (.tmp (lk 0 rfl rfl) rfl) rfl rfl
              · skip
                refine AWp.skip ?_
                refine thenQ_n ?_
                refine AWp.seq ?_
                refine AWp.seq ?_
                refine W.reg [0, 1, 2] rfl ?_
                refine S.sil 64 rfl rfl (fun _ hF => .move (lk 2 rfl rfl)) ?_
                refine S.sil 65 rfl rfl (fun _ hF => .makeFunc rfl (mapE1 (lk 2 rfl rfl)) rfl rfl) ?_
                obtain ⟨r18, m18, h⟩ := h.bnd
                refine S.eff 66 rfl rfl (.nf (v2 := V.bool r18.1) (H2 := [.tail, .cells ((V.int .i64) r18.2)]) (.callH ent91 cF [1] (C_slices_ContainsFunc_Field_Fits_1 m18) (by decide) (.cons (lt_cells ((TyOk.int .i64).lt _ _)) rfl (RSub.trans (.refl _) (.eq ((TyOk.int .i64).cl _ _).symm)) .nil) (ltL_c (ty_S_TField.lt _ _) (ltL_c (lt_fn ltL_nil (ltL_c rfl ltL_nil)) ltL_nil)) (.c (lk 1 rfl rfl) (vsubr (vsub rfl (.forget _ _ _)) (ty_S_TField.lt _ _)) (.c (lk 0 rfl rfl) (subren (ren_fn rfl (renL_c rfl rfl))) .nil)) (TyOk.bool.cl _ _) (mapc (ren_cells ((TyOk.int .i64).cl _ _)) rfl) rfl) rfl rfl) trivial ?_
                refine S.nil ?_
                refine thenQ_n ?_
                refine AWp.condM (lk 0 rfl rfl) h (fun c11 h => ?_) (fun c11 h => ?_)
                · skip
                  refine AWp.seq ?_
                  refine W.reg [0] rfl ?_
                  refine S.sil 4 rfl rfl (fun _ hF => .assign cI) ?_
                  refine S.nil ?_
                  refine thenQ_n ?_
                  refine AWp.ret ?_
                  refine thenQ_r ?_
                  obtain rfl := h.ret
                  exact endF1 rfl (Wk.selS [] .nil rfl (SelE.leaf (lk 0 rfl rfl) rfl (.refl _) (fun m => ((TyOk.int .i64).lt _ _)) .nil) .nil) (.tmp (lk 0 rfl rfl) rfl) rfl rfl
                · skip
                  refine AWp.skip ?_
                  refine thenQ_n ?_
                  refine AWp.seq ?_
                  refine W.reg [0, 1] rfl ?_
                  refine S.eff 13 rfl rfl (.nf (v2 := .ptr 2 [] 0) (H2 := [.tail, .cells ((V.int .i64) r18.2), .cells (.nilfn)]) (.alloc zv112) rfl rfl) trivial ?_
                  refine S.effN rfl rfl (.nf (H2 := [.tail, .cells ((V.int .i64) r18.2), .cells (.fn 93 [] [])]) (.storeP sz112 (lk 0 rfl rfl) cF rfl (.refl _) rfl .nil (by first | rfl | omega) .nil rfl rfl rfl) rfl rfl) trivial ?_
                  refine S.nil ?_
                  refine thenQ_n ?_
                  refine AWp.wk (Wk.freeze 2 rfl rfl (.cons (lk 0 rfl rfl) rfl (.ptr .nil (by first | rfl | omega)) (.same (lk 6 rfl rfl) (.same (lk 7 rfl rfl) .nil))) (.refl _)) ?_
                  refine AWp.seq ?_
                  refine AWp.seq ?_
                  refine W.reg [0, 1, 2] rfl ?_
                  refine S.sil 67 rfl rfl (fun _ hF => .move (lk 1 rfl rfl)) ?_
                  refine S.sil 68 rfl rfl (fun _ hF => .makeFunc rfl (mapE1 (lk 1 rfl rfl)) rfl rfl) ?_
                  obtain ⟨r19, m19, h⟩ := h.bnd
                  refine S.sil 69 rfl rfl (fun _ hF => .callQ ent91 cF (.c (lk 1 rfl rfl) (vsub rfl (.forget _ _ _)) (.c (lk 0 rfl rfl) (V.sub.refl _) .nil)) (C_slices_ContainsFunc_Field_Fits_3_Fits_2 m19)) ?_
                  refine S.nil ?_
                  refine thenQ_n ?_
                  refine AWp.condM (lk 0 rfl rfl) h (fun c12 h => ?_) (fun c12 h => ?_)
                  · skip
                    refine AWp.seq ?_
                    refine W.reg [0] rfl ?_
                    refine S.sil 4 rfl rfl (fun _ hF => .assign cI) ?_
                    refine S.nil ?_
                    refine thenQ_n ?_
                    refine AWp.ret ?_
                    refine thenQ_r ?_
                    obtain rfl := h.ret
                    exact endF1 rfl (Wk.selS [] .nil rfl (SelE.leaf (lk 0 rfl rfl) rfl (.refl _) (fun m => ((TyOk.int .i64).lt _ _)) .nil) .nil) (.tmp (lk 0 rfl rfl) rfl) rfl rfl
                  · skip
                    refine AWp.skip ?_
                    refine thenQ_n ?_
                    refine AWp.seq ?_
                    refine W.reg [0] rfl ?_
                    refine S.sil 4 rfl rfl (fun _ hF => .assign cI) ?_
                    refine S.nil ?_
                    refine thenQ_n ?_
                    refine AWp.ret ?_
                    obtain rfl := h.ret
                    exact endF1 rfl (Wk.selS [] .nil rfl (SelE.leaf (lk 0 rfl rfl) rfl (.refl _) (fun m => ((TyOk.int .i64).lt _ _)) .nil) .nil) (.tmp (lk 0 rfl rfl) rfl) rfl rfl
        · skip
          refine AWp.skip ?_
          refine thenQ_n ?_
          refine AWp.seq ?_
          refine W.reg [0, 1] rfl ?_
          refine S.eff 12 rfl rfl (.nf (v2 := .ptr 1 [] 0) (H2 := [.tail, .cells ((V.int .i64) 0)]) (.alloc zv3) rfl rfl) trivial ?_
          refine S.effN rfl rfl (.nf (H2 := [.tail, .cells ((V.int .i64) 1)]) (.storeP sz3 (lk 0 rfl rfl) cI rfl (.refl _) rfl .nil (by first | rfl | omega) .nil rfl rfl rfl) rfl rfl) trivial ?_
          refine S.nil ?_
          refine thenQ_n ?_
          refine AWp.seq ?_
          refine AWp.seq ?_
          refine W.reg [0, 1, 2] rfl ?_
          refine S.sil 61 rfl rfl (fun _ hF => .fieldAddrC lay51 rfl rfl (lk 5 rfl rfl) rfl flL_nil) ?_
          refine S.sil 62 rfl rfl (fun _ hF => .loadC sz3 ag3 (lk 0 rfl rfl) rfl rfl) ?_
          refine S.sil 63 rfl rfl (fun _ hF => .eql (lk 0 rfl rfl) cI) ?_
          refine S.nil ?_
          refine thenQ_n ?_
          refine AWp.condM (lk 0 rfl rfl) h (fun c13 h => ?_) (fun c13 h => ?_)
          · skip
            refine W.reg [0] rfl ?_
            refine S.effN rfl rfl (.nf (H2 := [.tail, .cells ((V.int .i64) 2)]) (.storeP sz3 (lk 3 rfl rfl) cI rfl (.refl _) rfl .nil (by first | rfl | omega) .nil rfl rfl rfl) rfl rfl) trivial ?_
            refine S.nil ?_
            refine thenQ_n ?_
            refine AWp.seq ?_
            refine AWp.seq ?_
            refine W.reg [0, 1, 2] rfl ?_
            refine S.sil 64 rfl rfl (fun _ hF => .move (lk 6 rfl rfl)) ?_
            refine S.sil 65 rfl rfl (fun _ hF => .makeFunc rfl (mapE1 (lk 4 rfl rfl)) rfl rfl) ?_
            obtain ⟨r20, m20, h⟩ := h.bnd
            refine S.eff 66 rfl rfl (.nf (v2 := V.bool r20.1) (H2 := [.tail, .cells ((V.int .i64) r20.2)]) (.callH ent91 cF [1] (C_slices_ContainsFunc_Field_Fits_1 m20) (by decide) (.cons (lt_cells ((TyOk.int .i64).lt _ _)) rfl (RSub.trans (.refl _) (.eq ((TyOk.int .i64).cl _ _).symm)) .nil) (ltL_c (ty_S_TField.lt _ _) (ltL_c (lt_fn ltL_nil (ltL_c rfl ltL_nil)) ltL_nil)) (.c (lk 1 rfl rfl) (vsubr (vsub rfl (.forget _ _ _)) (ty_S_TField.lt _ _)) (.c (lk 0 rfl rfl) (subren (ren_fn rfl (renL_c rfl rfl))) .nil)) (TyOk.bool.cl _ _) (mapc (ren_cells ((TyOk.int .i64).cl _ _)) rfl) rfl) rfl rfl) trivial ?_
            refine S.nil ?_
            refine thenQ_n ?_
            refine AWp.prune (.eq (lk 0 rfl rfl) rfl (.eq (lk 9 rfl rfl) rfl (.eq (lk 10 rfl rfl) rfl .nil))) ?_
            refine AWp.condM (lk 0 rfl rfl) h (fun c14 h => ?_) (fun c14 h => ?_)
            · skip
              refine AWp.seq ?_
              refine W.reg [0] rfl ?_
              refine S.sil 4 rfl rfl (fun _ hF => .assign cI) ?_
              refine S.nil ?_
              refine thenQ_n ?_
              refine AWp.ret ?_
              refine thenQ_r ?_
              obtain rfl := h.ret
              exact endF1 rfl (Wk.selS [] .nil rfl (SelE.leaf (lk 0 rfl rfl) rfl (.refl _) (fun m => ((TyOk.int .i64).lt _ _)) .nil) .nil) (.tmp (lk 0 rfl rfl) rfl) rfl rfl
            · skip
              refine AWp.skip ?_
              refine thenQ_n ?_
              refine AWp.seq ?_
              refine W.reg [0, 1] rfl ?_
              refine S.eff 13 rfl rfl (.nf (v2 := .ptr 2 [] 0) (H2 := [.tail, .cells ((V.int .i64) r20.2), .cells (.nilfn)]) (.alloc zv112) rfl rfl) trivial ?_
              refine S.effN rfl rfl (.nf (H2 := [.tail, .cells ((V.int .i64) r20.2), .cells (.fn 93 [] [])]) (.storeP sz112 (lk 0 rfl rfl) cF rfl (.refl _) rfl .nil (by first | rfl | omega) .nil rfl rfl rfl) rfl rfl) trivial ?_
              refine S.nil ?_
              refine thenQ_n ?_
              refine AWp.wk (Wk.freeze 2 rfl rfl (.cons (lk 0 rfl rfl) rfl (.ptr .nil (by first | rfl | omega)) (.same (lk 2 rfl rfl) (.same (lk 3 rfl rfl) .nil))) (.refl _)) ?_
              refine AWp.seq ?_
              refine AWp.seq ?_
              refine W.reg [0, 1, 2] rfl ?_
              refine S.sil 67 rfl rfl (fun _ hF => .move (lk 1 rfl rfl)) ?_
              refine S.sil 68 rfl rfl (fun _ hF => .makeFunc rfl (mapE1 (lk 1 rfl rfl)) rfl rfl) ?_
              obtain ⟨r21, m21, h⟩ := h.bnd
              refine S.sil 69 rfl rfl (fun _ hF => .callQ ent91 cF (.c (lk 1 rfl rfl) (vsub rfl (.forget _ _ _)) (.c (lk 0 rfl rfl) (V.sub.refl _) .nil)) (C_slices_ContainsFunc_Field_Fits_3_Fits_2 m21)) ?_
              refine S.nil ?_
              refine thenQ_n ?_
              refine AWp.condM (lk 0 rfl rfl) h (fun c15 h => ?_) (fun c15 h => ?_)
              · skip
                refine AWp.seq ?_
                refine W.reg [0] rfl ?_
                refine S.sil 4 rfl rfl (fun _ hF => .assign cI) ?_
                refine S.nil ?_
                refine thenQ_n ?_
                refine AWp.ret ?_
                refine thenQ_r ?_
                obtain rfl := h.ret
                exact endF1 rfl (Wk.selS [] .nil rfl (SelE.leaf (lk 0 rfl rfl) rfl (.refl _) (fun m => ((TyOk.int .i64).lt _ _)) .nil) .nil) (.tmp (lk 0 rfl rfl) rfl) rfl rfl
              · skip
                refine AWp.skip ?_
                refine thenQ_n ?_
                refine AWp.seq ?_
                refine W.reg [0] rfl ?_
                refine S.sil 4 rfl rfl (fun _ hF => .assign cI) ?_
                refine S.nil ?_
                refine thenQ_n ?_
                refine AWp.ret ?_
                obtain rfl := h.ret
                exact endF1 rfl (Wk.selS [] .nil rfl (SelE.leaf (lk 0 rfl rfl) rfl (.refl _) (fun m => ((TyOk.int .i64).lt _ _)) .nil) .nil) (.tmp (lk 0 rfl rfl) rfl) rfl rfl
          · skip
            refine AWp.skip ?_
            refine thenQ_n ?_
            refine AWp.seq ?_
            refine AWp.seq ?_
            refine W.reg [0, 1, 2] rfl ?_
            refine S.sil 64 rfl rfl (fun _ hF => .move (lk 6 rfl rfl)) ?_
            refine S.sil 65 rfl rfl (fun _ hF => .makeFunc rfl (mapE1 (lk 4 rfl rfl)) rfl rfl) ?_
            obtain ⟨r22, m22, h⟩ := h.bnd
            refine S.eff 66 rfl rfl (.nf (v2 := V.bool r22.1) (H2 := [.tail, .cells ((V.int .i64) r22.2)]) (.callH ent91 cF [1] (C_slices_ContainsFunc_Field_Fits_1 m22) (by decide) (.cons (lt_cells ((TyOk.int .i64).lt _ _)) rfl (RSub.trans (.refl _) (.eq ((TyOk.int .i64).cl _ _).symm)) .nil) (ltL_c (ty_S_TField.lt _ _) (ltL_c (lt_fn ltL_nil (ltL_c rfl ltL_nil)) ltL_nil)) (.c (lk 1 rfl rfl) (vsubr (vsub rfl (.forget _ _ _)) (ty_S_TField.lt _ _)) (.c (lk 0 rfl rfl) (subren (ren_fn rfl (renL_c rfl rfl))) .nil)) (TyOk.bool.cl _ _) (mapc (ren_cells ((TyOk.int .i64).cl _ _)) rfl) rfl) rfl rfl) trivial ?_
            refine S.nil ?_
            refine thenQ_n ?_
            refine AWp.prune (.eq (lk 0 rfl rfl) rfl (.eq (lk 9 rfl rfl) rfl (.eq (lk 10 rfl rfl) rfl .nil))) ?_
            refine AWp.condM (lk 0 rfl rfl) h (fun c16 h => ?_) (fun c16 h => ?_)
            · skip
              refine AWp.seq ?_
              refine W.reg [0] rfl ?_
              refine S.sil 4 rfl rfl (fun _ hF => .assign cI) ?_
              refine S.nil ?_
              refine thenQ_n ?_
              refine AWp.ret ?_
              refine thenQ_r ?_
              obtain rfl := h.ret
              exact endF1 rfl (Wk.selS [] .nil rfl (SelE.leaf (lk 0 rfl rfl) rfl (.refl _) (fun m => ((TyOk.int .i64).lt _ _)) .nil) .nil) (.tmp (lk 0 rfl rfl) rfl) rfl rfl
            · skip
              refine AWp.skip ?_
              refine thenQ_n ?_
              refine AWp.seq ?_
              refine W.reg [0, 1] rfl ?_
              refine S.eff 13 rfl rfl (.nf (v2 := .ptr 2 [] 0) (H2 := [.tail, .cells ((V.int .i64) r22.2), .cells (.nilfn)]) (.alloc zv112) rfl rfl) trivial ?_
              refine S.effN rfl rfl (.nf (H2 := [.tail, .cells ((V.int .i64) r22.2), .cells (.fn 93 [] [])]) (.storeP sz112 (lk 0 rfl rfl) cF rfl (.refl _) rfl .nil (by first | rfl | omega) .nil rfl rfl rfl) rfl rfl) trivial ?_
              refine S.nil ?_
              refine thenQ_n ?_
              refine AWp.wk (Wk.freeze 2 rfl rfl (.cons (lk 0 rfl rfl) rfl (.ptr .nil (by first | rfl | omega)) (.same (lk 2 rfl rfl) (.same (lk 3 rfl rfl) .nil))) (.refl _)) ?_
              refine AWp.seq ?_
              refine AWp.seq ?_
              refine W.reg [0, 1, 2] rfl ?_
              refine S.sil 67 rfl rfl (fun _ hF => .move (lk 1 rfl rfl)) ?_
              refine S.sil 68 rfl rfl (fun _ hF => .makeFunc rfl (mapE1 (lk 1 rfl rfl)) rfl rfl) ?_
              obtain ⟨r23, m23, h⟩ := h.bnd
              refine S.sil 69 rfl rfl (fun _ hF => .callQ ent91 cF (.c (lk 1 rfl rfl) (vsub rfl (.forget _ _ _)) (.c (lk 0 rfl rfl) (V.sub.refl _) .nil)) (C_slices_ContainsFunc_Field_Fits_3_Fits_2 m23)) ?_
              refine S.nil ?_
              refine thenQ_n ?_
              refine AWp.condM (lk 0 rfl rfl) h (fun c17 h => ?_) (fun c17 h => ?_)
              · skip
                refine AWp.seq ?_
                refine W.reg [0] rfl ?_
                refine S.sil 4 rfl rfl (fun _ hF => .assign cI) ?_
                refine S.nil ?_
                refine thenQ_n ?_
                refine AWp.ret ?_
                refine thenQ_r ?_
                obtain rfl := h.ret
                exact endF1 rfl (Wk.selS [] .nil rfl (SelE.leaf (lk 0 rfl rfl) rfl (.refl _) (fun m => ((TyOk.int .i64).lt _ _)) .nil) .nil) (.tmp (lk 0 rfl rfl) rfl) rfl rfl
              · skip
                refine AWp.skip ?_
                refine thenQ_n ?_
                refine AWp.seq ?_
                refine W.reg [0] rfl ?_
                refine S.sil 4 rfl rfl (fun _ hF => .assign cI) ?_
                refine S.nil ?_
                refine thenQ_n ?_
                refine AWp.ret ?_
                obtain rfl := h.ret
                exact endF1 rfl (Wk.selS [] .nil rfl (SelE.leaf (lk 0 rfl rfl) rfl (.refl _) (fun m => ((TyOk.int .i64).lt _ _)) .nil) .nil) (.tmp (lk 0 rfl rfl) rfl) rfl rfl
theorem C_counter_Value {a1 : TCounter} {r : Int × Int} (h : counter_Value a1 = some r) : PureC Pg 111 [E_TCounter a1] (.tup [(V.int .i64) r.1, (V.int .i64) r.2]) := by
  refine PureC.ofF (CallSpec.of_bodyF 30 0 fn111 rfl rfl rfl (Nat.le_of_ble_eq_true rfl) ?_) (ltL_c (ty_TCounter.lt _ _) ltL_nil) (lt_tup (ltL_c ((TyOk.int .i64).lt _ _) (ltL_c ((TyOk.int .i64).lt _ _) ltL_nil)))
  replace h := Ok.of h
  unfold counter_Value at h
  refine AWp.seq ?_
  refine W.reg [0, 1, 2] rfl ?_
  refine S.eff 1 rfl rfl (.nf (v2 := .ptr 0 [] 0) (H2 := [.cells (E_TCounter a1)]) (.box (lk 0 rfl rfl) rfl) rfl rfl) trivial ?_
  refine S.sil 2 rfl rfl (fun _ hF => .assign cI) ?_
  refine S.sil 3 rfl rfl (fun _ hF => .assign cI) ?_
  refine S.nil ?_
  refine thenQ_n ?_
  refine AWp.wk (Wk.freeze 0 rfl rfl (.same (lk 0 rfl rfl) (.same (lk 1 rfl rfl) (.cons (lk 2 rfl rfl) rfl (.ptr .nil (by first | rfl | omega)) .nil))) (.refl _)) ?_
  refine AWp.seq ?_
  refine W.regD [0, 1, 2, 3, 4, 5, 6, 7] mixed ?_
  refine S.sil 7 rfl rfl (fun _ hF => .fieldAddrC lay28 rfl rfl (lk 2 rfl rfl) rfl flL_nil) ?_
  refine S.sil 8 rfl rfl (fun _ hF => .loadC sz3 ag3 (lk 0 rfl rfl) rfl rfl) ?_
  refine S.sil 9 rfl rfl (fun _ hF => .buildSliceW sli116 zv3 rfl rfl (by decide) (.cons (lk 0 rfl rfl) rfl (.refl _) rfl .nil)) ?_
  refine S.sil 10 rfl rfl (fun _ hF => .fieldAddrC lay28 rfl rfl (lk 5 rfl rfl) rfl (flL_c (show flen _ = 1 from rfl) (flL_c (show flen _ = 1 from rfl) (flL_c (show flen _ = 1 from rfl) (flL_c (ty_TRights.fl a1.Down) flL_nil))))) ?_
  refine S.sil 11 rfl rfl (fun _ hF => .fieldAddrC lay26 rfl rfl (lk 0 rfl rfl) rfl (flL_c (ty_A16_i64.fl a1.Up.Given) flL_nil)) ?_
  refine S.sil 12 rfl rfl (fun _ hF => .sliceArr arr23 (lk 0 rfl rfl) (by simp)) ?_
  obtain ⟨l2, m2, h⟩ := h.bnd
  refine S.new 13 rfl rfl (.appX sli116 und116 zv3 rfl (by decide) (lk 3 rfl rfl) (V.sub.refl _) (lk 0 rfl rfl) Rd.sl m2 rfl) trivial ?_
  refine S.sil 4 rfl rfl (fun _ hF => .assign (lk 0 rfl rfl)) ?_
  refine S.nilD (by kernel_rfl) ?_
  refine thenQ_n ?_
  refine AWp.seq ?_
  refine AWp.seq ?_
  refine W.reg [0, 1, 2, 3] rfl ?_
  refine S.sil 14 rfl rfl (fun _ hF => .fieldAddrC lay28 rfl rfl (lk 10 rfl rfl) rfl (flL_c (show flen _ = 1 from rfl) (flL_c (show flen _ = 1 from rfl) (flL_c (show flen _ = 1 from rfl) flL_nil)))) ?_
  refine S.sil 15 rfl rfl (fun _ hF => .fieldAddrC lay26 rfl rfl (lk 0 rfl rfl) rfl (flL_c (ty_A16_i64.fl a1.Down.Given) flL_nil)) ?_
  refine S.sil 16 rfl rfl (fun _ hF => .loadC sz23 ag23 (lk 0 rfl rfl) (ty_A16_i64.fl a1.Down.Used) rfl) ?_
  refine S.sil 17 rfl rfl (fun _ hF => .move cI) ?_
  refine S.nil ?_
  refine thenQ_n ?_
  refine AWp.prune (.eq (lk 0 rfl rfl) rfl (.eq (lk 1 rfl rfl) rfl (.eq (lk 4 rfl rfl) rfl (.eq (lk 12 rfl rfl) rfl (.eq (lk 13 rfl rfl) rfl .nil))))) ?_
  refine AWp.cutX (fun x5 => ⟨[(4, .sl 1 (.tok 0) (List.map (V.int .i64) x5)), (3, (V.int .i64) 0), (2, (V.int .i64) 0)], [.tail]⟩) nc_then h (fun q3 hq3 => ?_) (fun x5 h => ?_)
  · refine AWp.block ?_
    refine AWp.loopT (fun s4 => ⟨[(17, (V.int .i64) s4.1), (16, E_A16_i64 a1.Down.Used), (4, .sl 1 (.tok 0) (List.map (V.int .i64) s4.2)), (3, (V.int .i64) 0), (2, (V.int .i64) 0)], [.tail]⟩) hq3 (Wk.selS [1] (by decide) rfl (SelE.leaf (lk 0 rfl rfl) rfl (.refl _) (fun m => ((TyOk.int .i64).lt _ _)) (SelE.leaf (lk 1 rfl rfl) rfl (.refl _) (fun m => (ty_A16_i64.lt _ _)) (SelE.spec (lk 2 rfl rfl) rfl (.refl _) (ren_sl (TyOk.int .i64) _) (lt_sl rfl ((TyOk.int .i64).ltm _ _)) (SelE.leaf (lk 3 rfl rfl) rfl (.refl _) (fun m => ((TyOk.int .i64).lt _ _)) (SelE.leaf (lk 4 rfl rfl) rfl (.refl _) (fun m => ((TyOk.int .i64).lt _ _)) .nil))))) (.cons rfl rfl trivial .nil)) (fun _ s4 h3 => ?_)
    rw [counter_Value_L1] at h3
    refine AWp.seq ?_
    refine W.reg [0] rfl ?_
    refine S.sil 18 rfl rfl (fun _ hF => .lss (lk 0 rfl rfl) cI) ?_
    refine S.nil ?_
    refine thenQ_n ?_
    refine AWp.seq ?_
    refine AWp.condM (lk 0 rfl rfl) h3 (fun c1 h3 => ?_) (fun c1 h3 => ?_)
    · skip
      refine AWp.skip ?_
      refine thenQ_n ?_
      refine AWp.seq ?_
      refine AWp.block ?_
      refine AWp.seq ?_
      refine W.reg [0, 1] rfl ?_
      obtain ⟨k6, m6, h3⟩ := h3.bnd
      refine S.sil 19 rfl rfl (fun _ hF => .ixV arr23 (lk 2 rfl rfl) (lk 1 rfl rfl) m6 rfl) ?_
      refine S.sil 6 rfl rfl (fun _ hF => .assign (lk 0 rfl rfl)) ?_
      refine S.nil ?_
      refine thenQ_n ?_
      refine W.reg [0, 1, 2, 3, 4, 5] rfl ?_
      refine S.sil 20 rfl rfl (fun _ hF => .move (lk 5 rfl rfl)) ?_
      refine S.sil 21 rfl rfl (fun _ hF => .move (lk 1 rfl rfl)) ?_
      refine S.sil 22 rfl rfl (fun _ hF => .neg (lk 0 rfl rfl)) ?_
      refine S.sil 23 rfl rfl (fun _ hF => .buildSliceW sli116 zv3 rfl rfl (by decide) (.cons (lk 0 rfl rfl) rfl (.refl _) rfl .nil)) ?_
      obtain ⟨l7, m7, h3⟩ := h3.bnd
      refine S.eff 24 rfl rfl (.nf (v2 := .sl 1 (.tok 1) (List.map (V.int .i64) l7)) (H2 := [.dead, .tail]) (.appT sli116 und116 zv3 rfl (by decide) (lk 3 rfl rfl) rfl (lk 0 rfl rfl) Rd.sl m7 rfl) rfl rfl) trivial ?_
      refine S.sil 4 rfl rfl (fun _ hF => .assign (lk 0 rfl rfl)) ?_
      refine S.nil ?_
      refine blockQ_n ?_
      refine thenQ_n ?_
      refine W.reg [0, 1] rfl ?_
      refine S.sil 25 rfl rfl (fun _ hF => .add (lk 9 rfl rfl) cI) ?_
      refine S.sil 17 rfl rfl (fun _ hF => .move (lk 0 rfl rfl)) ?_
      refine S.nil ?_
      refine thenQ_n ?_
      exact ⟨_, h3.ret, (Wk.selS [1] (by decide) rfl (SelE.leaf (lk 0 rfl rfl) rfl (.refl _) (fun m => ((TyOk.int .i64).lt _ _)) (SelE.leaf (lk 12 rfl rfl) rfl (.refl _) (fun m => (ty_A16_i64.lt _ _)) (SelE.spec (lk 2 rfl rfl) rfl (.refl _) (ren_sl (TyOk.int .i64) _) (lt_sl rfl ((TyOk.int .i64).ltm _ _)) (SelE.leaf (lk 14 rfl rfl) rfl (.refl _) (fun m => ((TyOk.int .i64).lt _ _)) (SelE.leaf (lk 15 rfl rfl) rfl (.refl _) (fun m => ((TyOk.int .i64).lt _ _)) .nil))))) (.cons rfl rfl trivial .nil))⟩
    · skip
      refine AWp.exit ?_
      refine thenQ_x ?_
      refine thenQ_x ?_
      refine blockQ_x ?_
      refine thenQ_n ?_
      exact ⟨_, h3.ret, (Wk.selS [0] (by decide) rfl (SelE.spec (lk 3 rfl rfl) rfl (.refl _) (ren_sl (TyOk.int .i64) _) (lt_sl rfl ((TyOk.int .i64).ltm _ _)) (SelE.leaf (lk 4 rfl rfl) rfl (.refl _) (fun m => ((TyOk.int .i64).lt _ _)) (SelE.leaf (lk 5 rfl rfl) rfl (.refl _) (fun m => ((TyOk.int .i64).lt _ _)) .nil))) (.cons rfl rfl trivial .nil))⟩
  · skip
    refine thenQ_n ?_
    refine AWp.seq ?_
    refine W.reg [0, 1, 2, 3, 4, 5] rfl ?_
    refine S.sil 26 rfl rfl (fun _ hF => .move (lk 0 rfl rfl)) ?_
    obtain ⟨r8, m8, h⟩ := h.bnd
    refine S.sil 27 rfl rfl (fun _ hF => .callQ ent87 cF (.c (lk 0 rfl rfl) (vsub rfl (.forget _ _ _)) .nil) (C_num_Sum m8)) ?_
    refine S.sil 28 rfl rfl (fun _ hF => .extract (lk 0 rfl rfl) rfl) ?_
    refine S.sil 29 rfl rfl (fun _ hF => .extract (lk 1 rfl rfl) rfl) ?_
    refine S.sil 2 rfl rfl (fun _ hF => .assign (lk 1 rfl rfl)) ?_
    refine S.sil 3 rfl rfl (fun _ hF => .assign (lk 1 rfl rfl)) ?_
    refine S.nil ?_
    refine thenQ_n ?_
    refine AWp.ret ?_
    obtain rfl := h.ret
    exact endFN rfl (Wk.selS [] .nil rfl (SelE.leaf (lk 1 rfl rfl) rfl (.refl _) (fun m => ((TyOk.int .i64).lt _ _)) (SelE.leaf (lk 0 rfl rfl) rfl (.refl _) (fun m => ((TyOk.int .i64).lt _ _)) .nil)) .nil) (.cons (.tmp (lk 0 rfl rfl) rfl) (.cons (.tmp (lk 1 rfl rfl) rfl) .nil)) rfl rfl rfl
theorem C_field_View {a1 : TField} {r : Int × Int} (h : field_View a1 = some r) : PureC Pg 61 [E_TField a1] (.tup [(V.int .i64) r.1, (V.int .i64) r.2]) := by
  refine PureC.ofF (CallSpec.of_bodyF 18 0 fn61 rfl rfl rfl (Nat.le_of_ble_eq_true rfl) ?_) (ltL_c (ty_TField.lt _ _) ltL_nil) (lt_tup (ltL_c ((TyOk.int .i64).lt _ _) (ltL_c ((TyOk.int .i64).lt _ _) ltL_nil)))
  replace h := Ok.of h
  unfold field_View at h
  refine AWp.seq ?_
  refine W.reg [0, 1, 2] rfl ?_
  refine S.eff 1 rfl rfl (.nf (v2 := .ptr 0 [] 0) (H2 := [.cells (E_TField a1)]) (.box (lk 0 rfl rfl) rfl) rfl rfl) trivial ?_
  refine S.sil 2 rfl rfl (fun _ hF => .assign cI) ?_
  refine S.sil 3 rfl rfl (fun _ hF => .assign cI) ?_
  refine S.nil ?_
  refine thenQ_n ?_
  refine AWp.wk (Wk.freeze 0 rfl rfl (.same (lk 0 rfl rfl) (.same (lk 1 rfl rfl) (.cons (lk 2 rfl rfl) rfl (.ptr .nil (by first | rfl | omega)) .nil))) (.refl _)) ?_
  refine AWp.seq ?_
  refine AWp.seq ?_
  refine W.reg [0, 1] rfl ?_
  refine S.sil 4 rfl rfl (fun _ hF => .fieldAddrC lay33 rfl rfl (lk 2 rfl rfl) rfl (flL_c (show flen _ = 1 from rfl) flL_nil)) ?_
  refine S.sil 5 rfl rfl (fun _ hF => .loadC sz3 ag3 (lk 0 rfl rfl) rfl rfl) ?_
  refine S.nil ?_
  refine thenQ_n ?_
  refine AWp.block ?_
  refine AWp.seq ?_
  refine W.reg [0, 1] rfl ?_
  refine S.sil 7 rfl rfl (fun _ hF => .eql (lk 0 rfl rfl) cI) ?_
  refine S.sil 6 rfl rfl (fun _ hF => .assign (lk 0 rfl rfl)) ?_
  refine S.nil ?_
  refine thenQ_n ?_
  refine AWp.condM (lk 0 rfl rfl) h (fun c1 h => ?_) (fun c1 h => ?_)
  · skip
    refine AWp.seq ?_
    refine W.reg [0, 1, 2, 3, 4, 5, 6] rfl ?_
    refine S.sil 8 rfl rfl (fun _ hF => .fieldAddrC lay33 rfl rfl (lk 6 rfl rfl) rfl (flL_c (show flen _ = 1 from rfl) (flL_c (show flen _ = 1 from rfl) (flL_c (show flen _ = 1 from rfl) flL_nil)))) ?_
    refine S.sil 9 rfl rfl (fun _ hF => .loadC sz28 ag28 (lk 0 rfl rfl) (ty_TCounter.fl a1.Counter) rfl) ?_
    obtain ⟨r2, m2, h⟩ := h.bnd
    refine S.sil 10 rfl rfl (fun _ hF => .callQ ent111 cF (.c (lk 0 rfl rfl) (V.sub.refl _) .nil) (C_counter_Value m2)) ?_
    refine S.sil 11 rfl rfl (fun _ hF => .extract (lk 0 rfl rfl) rfl) ?_
    refine S.sil 12 rfl rfl (fun _ hF => .extract (lk 1 rfl rfl) rfl) ?_
    refine S.sil 2 rfl rfl (fun _ hF => .assign (lk 1 rfl rfl)) ?_
    refine S.sil 3 rfl rfl (fun _ hF => .assign (lk 1 rfl rfl)) ?_
    refine S.nil ?_
    refine thenQ_n ?_
    refine AWp.prune (.eq (lk 0 rfl rfl) rfl (.eq (lk 1 rfl rfl) rfl .nil)) ?_
    refine AWp.ret ?_
    refine blockQ_r ?_
    refine thenQ_r ?_
    obtain rfl := h.ret
    exact endFN rfl (Wk.selS [] .nil rfl (SelE.leaf (lk 1 rfl rfl) rfl (.refl _) (fun m => ((TyOk.int .i64).lt _ _)) (SelE.leaf (lk 0 rfl rfl) rfl (.refl _) (fun m => ((TyOk.int .i64).lt _ _)) .nil)) .nil) (.cons (.tmp (lk 0 rfl rfl) rfl) (.cons (.tmp (lk 1 rfl rfl) rfl) .nil)) rfl rfl rfl
  · skip
    refine AWp.seq ?_
    refine W.reg [0, 1] rfl ?_
    refine S.sil 14 rfl rfl (fun _ hF => .eql (lk 2 rfl rfl) cI) ?_
    refine S.sil 13 rfl rfl (fun _ hF => .assign (lk 0 rfl rfl)) ?_
    refine S.nil ?_
    refine thenQ_n ?_
    refine AWp.condM (lk 0 rfl rfl) h (fun c2 h => ?_) (fun c2 h => ?_)
    · skip
      refine AWp.seq ?_
      refine W.reg [0, 1, 2, 3, 4] rfl ?_
      refine S.sil 15 rfl rfl (fun _ hF => .fieldAddrC lay33 rfl rfl (lk 8 rfl rfl) rfl (flL_c (show flen _ = 1 from rfl) (flL_c (show flen _ = 1 from rfl) (flL_c (show flen _ = 1 from rfl) (flL_c (ty_TCounter.fl a1.Counter) flL_nil))))) ?_
      refine S.sil 16 rfl rfl (fun _ hF => .fieldAddrC lay30 rfl rfl (lk 0 rfl rfl) rfl (flL_c (show flen _ = 1 from rfl) (flL_c (show flen _ = 1 from rfl) (flL_c (show flen _ = 1 from rfl) flL_nil)))) ?_
      refine S.sil 17 rfl rfl (fun _ hF => .loadC sz3 ag3 (lk 0 rfl rfl) rfl rfl) ?_
      refine S.sil 2 rfl rfl (fun _ hF => .assign (lk 0 rfl rfl)) ?_
      refine S.sil 3 rfl rfl (fun _ hF => .assign cI) ?_
      refine S.nil ?_
      refine thenQ_n ?_
      refine AWp.prune (.eq (lk 0 rfl rfl) rfl (.eq (lk 1 rfl rfl) rfl .nil)) ?_
      refine AWp.ret ?_
      refine blockQ_r ?_
      refine thenQ_r ?_
      obtain rfl := h.ret
      exact endFN rfl (Wk.selS [] .nil rfl (SelE.leaf (lk 1 rfl rfl) rfl (.refl _) (fun m => ((TyOk.int .i64).lt _ _)) (SelE.leaf (lk 0 rfl rfl) rfl (.refl _) (fun m => ((TyOk.int .i64).lt _ _)) .nil)) .nil) (.cons (.tmp (lk 0 rfl rfl) rfl) (.cons (.tmp (lk 1 rfl rfl) rfl) .nil)) rfl rfl rfl
    · skip
      refine AWp.skip ?_
      refine blockQ_n ?_
      refine thenQ_n ?_
      refine AWp.seq ?_
      refine W.reg [0, 1] rfl ?_
      refine S.sil 2 rfl rfl (fun _ hF => .assign cI) ?_
      refine S.sil 3 rfl rfl (fun _ hF => .assign cI) ?_
      refine S.nil ?_
      refine thenQ_n ?_
      refine AWp.ret ?_
      obtain rfl := h.ret
      exact endFN rfl (Wk.selS [] .nil rfl (SelE.leaf (lk 1 rfl rfl) rfl (.refl _) (fun m => ((TyOk.int .i64).lt _ _)) (SelE.leaf (lk 0 rfl rfl) rfl (.refl _) (fun m => ((TyOk.int .i64).lt _ _)) .nil)) .nil) (.cons (.tmp (lk 0 rfl rfl) rfl) (.cons (.tmp (lk 1 rfl rfl) rfl) .nil)) rfl rfl rfl
theorem C_plan_made {a1 : ByteArray} {a2 : Int} {a3 : Int} {a4 : Int} {a5 : Int} {r : TField × Int} (h : plan_made a1 a2 a3 a4 a5 = some r) : PureC Pg 99 [V.str a1, (V.int .i64) a2, (V.int .i64) a3, (V.int .i64) a4, (V.int .i64) a5] (.tup [E_TField r.1, (V.int .i64) r.2]) := by
  refine PureC.ofF (CallSpec.of_bodyF 48 0 fn99 rfl rfl rfl (Nat.le_of_ble_eq_true rfl) ?_) (ltL_c (TyOk.str.lt _ _) (ltL_c ((TyOk.int .i64).lt _ _) (ltL_c ((TyOk.int .i64).lt _ _) (ltL_c ((TyOk.int .i64).lt _ _) (ltL_c ((TyOk.int .i64).lt _ _) ltL_nil))))) (lt_tup (ltL_c (ty_TField.lt _ _) (ltL_c ((TyOk.int .i64).lt _ _) ltL_nil)))
  replace h := Ok.of h
  unfold plan_made at h
  refine AWp.seq ?_
  refine W.reg [0, 1] rfl ?_
  refine S.eff 10 rfl rfl (.nf (v2 := .ptr 0 [] 0) (H2 := [.cells (.st [V.str (default : ByteArray), (V.int .i64) 0, (V.int .i64) 0, E_TCounter (default : TCounter), E_TLock (default : TLock), .nils])]) (.alloc zv33) rfl rfl) trivial ?_
  refine S.sil 11 rfl rfl (fun _ hF => .assign cI) ?_
  refine S.nil ?_
  refine thenQ_n ?_
  refine AWp.seq ?_
  refine AWp.seq ?_
  refine W.reg [0, 1, 2, 3, 4, 5, 6, 7, 8, 9] rfl ?_
  refine S.sil 16 rfl rfl (fun _ hF => .move (lk 3 rfl rfl)) ?_
  refine S.sil 17 rfl rfl (fun _ hF => .move (lk 5 rfl rfl)) ?_
  refine S.sil 18 rfl rfl (fun _ hF => .move (lk 7 rfl rfl)) ?_
  refine S.sil 19 rfl rfl (fun _ hF => .move (lk 9 rfl rfl)) ?_
  refine S.sil 20 rfl rfl (fun _ hF => .move (lk 10 rfl rfl)) ?_
  refine S.sil 21 rfl rfl (fun _ hF => .move (lk 10 rfl rfl)) ?_
  refine S.sil 22 rfl rfl (fun _ hF => .sub (lk 1 rfl rfl) (lk 0 rfl rfl)) ?_
  refine S.sil 23 rfl rfl (fun _ hF => .buildSliceW sli116 zv3 rfl rfl (by decide) (.cons (lk 6 rfl rfl) rfl (.refl _) rfl (.cons (lk 5 rfl rfl) rfl (.refl _) rfl (.cons (lk 4 rfl rfl) rfl (.refl _) rfl (.cons (lk 3 rfl rfl) rfl (.refl _) rfl (.cons (lk 0 rfl rfl) rfl (.refl _) rfl .nil)))))) ?_
  refine S.sil 24 rfl rfl (fun _ hF => .lenT (f := (V.int .i64)) (xs := [a2, a3, a4, a5, (wr .i64 (a5 - a4))]) sli116 (lk 0 rfl rfl) (vsub rfl (.forget _ _ _))) ?_
  refine S.sil 25 rfl rfl (fun _ hF => .move cI) ?_
  refine S.nil ?_
  refine thenQ_n ?_
  refine AWp.cutL (fun x8 => ⟨[(11, (V.int .i64) 0), (10, .ptr 0 [] 0), (0, V.str a1), (1, (V.int .i64) a2), (2, (V.int .i64) a3), (3, (V.int .i64) a4), (4, (V.int .i64) a5)], [.cells (E_TField (⟨(default : ByteArray), 0, 0, (default : TCounter), (default : TLock), ([] : List THold)⟩ : TField))]⟩) nc_then h (fun q6 hq6 h => ?_) (fun x8 h => ?_)
  · refine AWp.block ?_
    refine AWp.loopT (fun s7 => ⟨[(25, (V.int .i64) s7), (24, (V.int .i64) ([a2, a3, a4, a5, (wr .i64 (a5 - a4))].length : Int)), (23, .sl 1 .exact (List.map (V.int .i64) [a2, a3, a4, a5, (wr .i64 (a5 - a4))])), (11, (V.int .i64) 0), (10, .ptr 0 [] 0), (0, V.str a1), (1, (V.int .i64) a2), (2, (V.int .i64) a3), (3, (V.int .i64) a4), (4, (V.int .i64) a5)], [.cells (E_TField (⟨(default : ByteArray), 0, 0, (default : TCounter), (default : TLock), ([] : List THold)⟩ : TField))]⟩) hq6 (Wk.selS [0] (by decide) rfl (SelE.leaf (lk 0 rfl rfl) rfl (.refl _) (fun m => ((TyOk.int .i64).lt _ _)) (SelE.leaf (lk 1 rfl rfl) rfl (.refl _) (fun m => ((TyOk.int .i64).lt _ _)) (SelE.leaf (lk 2 rfl rfl) rfl (.refl _) (fun m => (lt_sl rfl ((TyOk.int .i64).ltm _ _))) (SelE.leaf (lk 10 rfl rfl) rfl (.refl _) (fun m => ((TyOk.int .i64).lt _ _)) (SelE.spec (lk 11 rfl rfl) rfl (.refl _) rfl rfl (SelE.leaf (lk 12 rfl rfl) rfl (.refl _) (fun m => (TyOk.str.lt _ _)) (SelE.leaf (lk 13 rfl rfl) rfl (.refl _) (fun m => ((TyOk.int .i64).lt _ _)) (SelE.leaf (lk 14 rfl rfl) rfl (.refl _) (fun m => ((TyOk.int .i64).lt _ _)) (SelE.leaf (lk 15 rfl rfl) rfl (.refl _) (fun m => ((TyOk.int .i64).lt _ _)) (SelE.leaf (lk 16 rfl rfl) rfl (.refl _) (fun m => ((TyOk.int .i64).lt _ _)) .nil)))))))))) (.cons (lt_cells (ty_TField.lt _ _)) rfl (RSub.trans (.st (.cons (.refl _) (.cons (.refl _) (.cons (.refl _) (.cons (.refl _) (.cons (.refl _) (.cons (.nils_no _) .nil))))))) (.eq (ty_TField.cl _ (⟨(default : ByteArray), 0, 0, (default : TCounter), (default : TLock), ([] : List THold)⟩ : TField)).symm)) .nil)) (fun _ s7 h6 => ?_)
    rw [plan_made_L1] at h6
    refine AWp.seq ?_
    refine W.reg [0] rfl ?_
    refine S.sil 26 rfl rfl (fun _ hF => .lss (lk 0 rfl rfl) (lk 1 rfl rfl)) ?_
    refine S.nil ?_
    refine thenQ_n ?_
    refine AWp.seq ?_
    refine AWp.condM (lk 0 rfl rfl) h6 (fun c1 h6 => ?_) (fun c1 h6 => ?_)
    · skip
      refine AWp.skip ?_
      refine thenQ_n ?_
      refine AWp.seq ?_
      refine AWp.block ?_
      refine AWp.seq ?_
      refine W.reg [0, 1, 2] rfl ?_
      obtain ⟨j9, m9, h6⟩ := h6.bnd
      refine S.sil 27 rfl rfl (fun _ hF => .ixS sli116 (lk 3 rfl rfl) (lk 1 rfl rfl) m9) ?_
      refine S.sil 28 rfl rfl (fun _ hF => .loadC sz3 ag3 (lk 0 rfl rfl) rfl rfl) ?_
      obtain ⟨v10, ev10, h6⟩ := h6.nam
      refine S.sil 13 rfl rfl (fun _ hF => .nv (.assign (lk 0 rfl rfl)) (congrArg (V.int .i64) ev10.symm)) ?_
      refine S.nil ?_
      refine thenQ_n ?_
      refine AWp.seq ?_
      refine W.reg [0, 1, 2] rfl ?_
      refine S.sil 29 rfl rfl (fun _ hF => .move (lk 0 rfl rfl)) ?_
      obtain ⟨r11, m11, h6⟩ := h6.bnd
      refine S.sil 30 rfl rfl (fun _ hF => .callQ ent64 cF (.c (lk 0 rfl rfl) (V.sub.refl _) .nil) (C_num_Is m11)) ?_
      refine S.sil 31 rfl rfl (fun _ hF => .not (lk 0 rfl rfl)) ?_
      refine S.nil ?_
      refine thenQ_n ?_
      refine AWp.condM (lk 0 rfl rfl) h6 (fun c2 h6 => ?_) (fun c2 h6 => ?_)
      · skip
        refine AWp.seq ?_
        refine W.reg [0, 1, 2] rfl ?_
        obtain ⟨v12, ev12, h6⟩ := h6.nam
        refine S.sil 32 rfl rfl (fun _ hF => .nv (.vs (v := .st [V.str (default : ByteArray), (V.int .i64) 0, (V.int .i64) 0, E_TCounter (default : TCounter), E_TLock (default : TLock), .nils]) (v2 := E_TField (⟨(default : ByteArray), 0, 0, (default : TCounter), (default : TLock), ([] : List THold)⟩ : TField)) (.buildStW lay33 zv33 rfl .nil) rfl (.st (.cons (.refl _) (.cons (.refl _) (.cons (.refl _) (.cons (.refl _) (.cons (.refl _) (.cons (.nils_no _) .nil)))))))) (congrArg E_TField ev12.symm)) ?_
        refine S.effN rfl rfl (.nf (H2 := [.cells (E_TField v12)]) (.storeP sz33 (lk 12 rfl rfl) (lk 0 rfl rfl) rfl (.refl _) rfl .nil (by first | rfl | omega) .nil (ty_TField.fl v12) (ty_TField.fl (⟨(default : ByteArray), 0, 0, (default : TCounter), (default : TLock), ([] : List THold)⟩ : TField)) rfl) rfl rfl) trivial ?_
        refine S.sil 11 rfl rfl (fun _ hF => .assign cI) ?_
        refine S.nil ?_
        refine thenQ_n ?_
        refine AWp.ret ?_
        refine blockQ_r ?_
        refine thenQ_r ?_
        refine thenQ_r ?_
        refine blockQ_r ?_
        refine thenQ_r ?_
        refine thenQ_r ?_
        have h := Ok.inrq h h6.ret
        refine endF_wk (Wk.freeze 0 rfl rfl (.same (lk 0 rfl rfl) (.same (lk 0 rfl rfl) (.cons (lk 13 rfl rfl) rfl (.ptr .nil (by first | rfl | omega)) .nil))) (.refl _)) ?_
        obtain rfl := h.ret
        exact endFN rfl (Wk.selS [] .nil rfl (SelE.leaf (lk 2 rfl rfl) rfl (.refl _) (fun m => (lt_cptr (ty_TField.lt _ _))) (SelE.leaf (lk 0 rfl rfl) rfl (.refl _) (fun m => ((TyOk.int .i64).lt _ _)) .nil)) .nil) (.cons (.cellC sz33 ag33 (lk 0 rfl rfl) (ty_TField.fl _) rfl) (.cons (.tmp (lk 1 rfl rfl) rfl) .nil)) rfl rfl rfl
      · skip
        refine AWp.skip ?_
        refine blockQ_n ?_
        refine thenQ_n ?_
        refine W.reg [0, 1] rfl ?_
        refine S.sil 33 rfl rfl (fun _ hF => .add (lk 7 rfl rfl) cI) ?_
        refine S.sil 25 rfl rfl (fun _ hF => .move (lk 0 rfl rfl)) ?_
        refine S.nil ?_
        refine thenQ_n ?_
        exact ⟨_, h6.ret, (Wk.selS [0] (by decide) rfl (SelE.leaf (lk 0 rfl rfl) rfl (.refl _) (fun m => ((TyOk.int .i64).lt _ _)) (SelE.leaf (lk 10 rfl rfl) rfl (.refl _) (fun m => ((TyOk.int .i64).lt _ _)) (SelE.leaf (lk 11 rfl rfl) rfl (.refl _) (fun m => (lt_sl rfl ((TyOk.int .i64).ltm _ _))) (SelE.leaf (lk 12 rfl rfl) rfl (.refl _) (fun m => ((TyOk.int .i64).lt _ _)) (SelE.spec (lk 13 rfl rfl) rfl (.refl _) rfl rfl (SelE.leaf (lk 14 rfl rfl) rfl (.refl _) (fun m => (TyOk.str.lt _ _)) (SelE.leaf (lk 15 rfl rfl) rfl (.refl _) (fun m => ((TyOk.int .i64).lt _ _)) (SelE.leaf (lk 16 rfl rfl) rfl (.refl _) (fun m => ((TyOk.int .i64).lt _ _)) (SelE.leaf (lk 17 rfl rfl) rfl (.refl _) (fun m => ((TyOk.int .i64).lt _ _)) (SelE.leaf (lk 18 rfl rfl) rfl (.refl _) (fun m => ((TyOk.int .i64).lt _ _)) .nil)))))))))) (.cons (lt_cells (ty_TField.lt _ _)) rfl (RSub.trans (.refl _) (.eq (ty_TField.cl _ (⟨(default : ByteArray), 0, 0, (default : TCounter), (default : TLock), ([] : List THold)⟩ : TField)).symm)) .nil))⟩
    · skip
      refine AWp.exit ?_
      refine thenQ_x ?_
      refine thenQ_x ?_
      refine blockQ_x ?_
      refine thenQ_n ?_
      exact ⟨_, h6.ret, (Wk.selS [0] (by decide) rfl (SelE.leaf (lk 4 rfl rfl) rfl (.refl _) (fun m => ((TyOk.int .i64).lt _ _)) (SelE.spec (lk 5 rfl rfl) rfl (.refl _) rfl rfl (SelE.leaf (lk 6 rfl rfl) rfl (.refl _) (fun m => (TyOk.str.lt _ _)) (SelE.leaf (lk 7 rfl rfl) rfl (.refl _) (fun m => ((TyOk.int .i64).lt _ _)) (SelE.leaf (lk 8 rfl rfl) rfl (.refl _) (fun m => ((TyOk.int .i64).lt _ _)) (SelE.leaf (lk 9 rfl rfl) rfl (.refl _) (fun m => ((TyOk.int .i64).lt _ _)) (SelE.leaf (lk 10 rfl rfl) rfl (.refl _) (fun m => ((TyOk.int .i64).lt _ _)) .nil))))))) (.cons (lt_cells (ty_TField.lt _ _)) rfl (RSub.trans (.refl _) (.eq (ty_TField.cl _ (⟨(default : ByteArray), 0, 0, (default : TCounter), (default : TLock), ([] : List THold)⟩ : TField)).symm)) .nil))⟩
  · skip
    refine thenQ_n ?_
    refine AWp.seq ?_
    refine W.reg [0, 1, 2, 3, 4, 5, 6, 7, 8, 9] rfl ?_
    refine S.sil 35 rfl rfl (fun _ hF => .move (lk 4 rfl rfl)) ?_
    refine S.sil 36 rfl rfl (fun _ hF => .move (lk 6 rfl rfl)) ?_
    refine S.sil 37 rfl rfl (fun _ hF => .move (lk 8 rfl rfl)) ?_
    obtain ⟨r13, m13, h⟩ := h.bnd
    refine S.sil 38 rfl rfl (fun _ hF => .callQ ent71 cF (.c (lk 2 rfl rfl) (V.sub.refl _) (.c (lk 1 rfl rfl) (V.sub.refl _) (.c (lk 0 rfl rfl) (V.sub.refl _) .nil))) (C_counter_New m13)) ?_
    refine S.sil 34 rfl rfl (fun _ hF => .move (lk 0 rfl rfl)) ?_
    refine S.sil 39 rfl rfl (fun _ hF => .extract (lk 0 rfl rfl) rfl) ?_
    refine S.sil 40 rfl rfl (fun _ hF => .extract (lk 1 rfl rfl) rfl) ?_
    refine S.eff 14 rfl rfl (.nf (v2 := .ptr 1 [] 0) (H2 := [.cells (E_TField (⟨(default : ByteArray), 0, 0, (default : TCounter), (default : TLock), ([] : List THold)⟩ : TField)), .cells (E_TCounter (default : TCounter))]) (.alloc zv28) rfl rfl) trivial ?_
    refine S.effN rfl rfl (.nf (H2 := [.cells (E_TField (⟨(default : ByteArray), 0, 0, (default : TCounter), (default : TLock), ([] : List THold)⟩ : TField)), .cells (E_TCounter r13.1)]) (.storeP sz28 (lk 0 rfl rfl) (lk 2 rfl rfl) rfl (.refl _) rfl .nil (by first | rfl | omega) .nil (ty_TCounter.fl r13.1) (ty_TCounter.fl (default : TCounter)) rfl) rfl rfl) trivial ?_
    refine S.sil 15 rfl rfl (fun _ hF => .assign (lk 1 rfl rfl)) ?_
    refine S.nil ?_
    refine thenQ_n ?_
    refine AWp.wk (Wk.freeze 1 rfl rfl (.same (lk 0 rfl rfl) (.cons (lk 1 rfl rfl) rfl (.ptr .nil (by first | rfl | omega)) (.same (lk 9 rfl rfl) (.same (lk 10 rfl rfl) (.same (lk 11 rfl rfl) (.same (lk 12 rfl rfl) .nil)))))) (.refl _)) ?_
    refine AWp.seq ?_
    refine AWp.seq ?_
    refine W.reg [0, 1] rfl ?_
    refine S.sil 41 rfl rfl (fun _ hF => .move (lk 0 rfl rfl)) ?_
    refine S.sil 42 rfl rfl (fun _ hF => .neq (lk 0 rfl rfl) cI) ?_
    refine S.nil ?_
    refine thenQ_n ?_
    refine AWp.condM (lk 0 rfl rfl) h (fun c3 h => ?_) (fun c3 h => ?_)
    · skip
      refine AWp.seq ?_
      refine W.reg [0, 1, 2] rfl ?_
      obtain ⟨v14, ev14, h⟩ := h.nam
      refine S.sil 43 rfl rfl (fun _ hF => .nv (.vs (v := .st [V.str (default : ByteArray), (V.int .i64) 0, (V.int .i64) 0, E_TCounter (default : TCounter), E_TLock (default : TLock), .nils]) (v2 := E_TField (⟨(default : ByteArray), 0, 0, (default : TCounter), (default : TLock), ([] : List THold)⟩ : TField)) (.buildStW lay33 zv33 rfl .nil) rfl (.st (.cons (.refl _) (.cons (.refl _) (.cons (.refl _) (.cons (.refl _) (.cons (.refl _) (.cons (.nils_no _) .nil)))))))) (congrArg E_TField ev14.symm)) ?_
      refine S.effN rfl rfl (.nf (H2 := [.cells (E_TField v14), .dead]) (.storeP sz33 (lk 6 rfl rfl) (lk 0 rfl rfl) rfl (.refl _) rfl .nil (by first | rfl | omega) .nil (ty_TField.fl v14) (ty_TField.fl (⟨(default : ByteArray), 0, 0, (default : TCounter), (default : TLock), ([] : List THold)⟩ : TField)) rfl) rfl rfl) trivial ?_
      refine S.sil 11 rfl rfl (fun _ hF => .assign cI) ?_
      refine S.nil ?_
      refine thenQ_n ?_
      refine AWp.ret ?_
      refine thenQ_r ?_
      refine endF_wk (Wk.freeze 0 rfl rfl (.same (lk 0 rfl rfl) (.same (lk 0 rfl rfl) (.cons (lk 7 rfl rfl) rfl (.ptr .nil (by first | rfl | omega)) .nil))) (.refl _)) ?_
      obtain rfl := h.ret
      exact endFN rfl (Wk.selS [] .nil rfl (SelE.leaf (lk 2 rfl rfl) rfl (.refl _) (fun m => (lt_cptr (ty_TField.lt _ _))) (SelE.leaf (lk 0 rfl rfl) rfl (.refl _) (fun m => ((TyOk.int .i64).lt _ _)) .nil)) .nil) (.cons (.cellC sz33 ag33 (lk 0 rfl rfl) (ty_TField.fl _) rfl) (.cons (.tmp (lk 1 rfl rfl) rfl) .nil)) rfl rfl rfl
    · skip
      refine AWp.skip ?_
      refine thenQ_n ?_
      refine AWp.seq ?_
      refine W.reg [0, 1, 2, 3, 4, 5] rfl ?_
      refine S.sil 44 rfl rfl (fun _ hF => .move (lk 6 rfl rfl)) ?_
      refine S.sil 45 rfl rfl (fun _ hF => .move (lk 8 rfl rfl)) ?_
      refine S.sil 46 rfl rfl (fun _ hF => .loadC sz28 ag28 (lk 5 rfl rfl) (ty_TCounter.fl r13.1) rfl) ?_
      obtain ⟨v15, ev15, h⟩ := h.nam
      refine S.sil 47 rfl rfl (fun _ hF => .nv (.vs (v := .st [V.str a1, (V.int .i64) 1, (V.int .i64) a2, E_TCounter r13.1, E_TLock (default : TLock), .nils]) (v2 := E_TField (⟨a1, 1, a2, r13.1, (default : TLock), ([] : List THold)⟩ : TField)) (.buildStW lay33 zv33 rfl (.cons (lk 2 rfl rfl) rfl rfl rfl rfl (.cons cI rfl rfl rfl rfl (.cons (lk 1 rfl rfl) rfl rfl rfl rfl (.cons (lk 0 rfl rfl) rfl rfl (ty_TCounter.fl r13.1) rfl .nil))))) rfl (.st (.cons (.refl _) (.cons (.refl _) (.cons (.refl _) (.cons (.refl _) (.cons (.refl _) (.cons (.nils_no _) .nil)))))))) (congrArg E_TField ev15.symm)) ?_
      refine S.effN rfl rfl (.nf (H2 := [.cells (E_TField v15), .dead]) (.storeP sz33 (lk 9 rfl rfl) (lk 0 rfl rfl) rfl (.refl _) rfl .nil (by first | rfl | omega) .nil (ty_TField.fl v15) (ty_TField.fl (⟨(default : ByteArray), 0, 0, (default : TCounter), (default : TLock), ([] : List THold)⟩ : TField)) rfl) rfl rfl) trivial ?_
      refine S.sil 11 rfl rfl (fun _ hF => .assign cI) ?_
      refine S.nil ?_
      refine thenQ_n ?_
      refine AWp.prune (.eq (lk 0 rfl rfl) rfl (.eq (lk 10 rfl rfl) rfl .nil)) ?_
      refine AWp.ret ?_
      refine endF_wk (Wk.freeze 0 rfl rfl (.same (lk 0 rfl rfl) (.cons (lk 1 rfl rfl) rfl (.ptr .nil (by first | rfl | omega)) .nil)) (.refl _)) ?_
      obtain rfl := h.ret
      exact endFN rfl (Wk.selS [] .nil rfl (SelE.leaf (lk 1 rfl rfl) rfl (.refl _) (fun m => (lt_cptr (ty_TField.lt _ _))) (SelE.leaf (lk 0 rfl rfl) rfl (.refl _) (fun m => ((TyOk.int .i64).lt _ _)) .nil)) .nil) (.cons (.cellC sz33 ag33 (lk 0 rfl rfl) (ty_TField.fl _) rfl) (.cons (.tmp (lk 1 rfl rfl) rfl) .nil)) rfl rfl rfl
theorem C_plan_change_1_own {a1 : Int} {a2 : Int} {a3 : Int} {a4 : TField} {b5 : Int} {r : (List TField) × Int × Int} (h : plan_change_1_own a1 a2 a3 a4 b5 = some r) : CallSpec Pg 98 [(V.int .i64) a1, (V.int .i64) a2, (V.int .i64) a3, .cptr (E_TField a4), .ptr 0 [] 0] [.cells ((V.int .i64) b5)] fun o H' => o = .ret (.tup [.slo 587 1 [] 0 0 r.1.length 1, (V.int .i64) r.2.1]) ∧ H' = [.cells ((V.int .i64) r.2.2), .buf 587 (List.map E_TField r.1)] := by
  refine CallSpec.of_bodyF 25 1 fn98 rfl rfl rfl (Nat.le_of_ble_eq_true rfl) ?_
  replace h := Ok.of h
  unfold plan_change_1_own at h
  refine AWp.seq ?_
  refine W.reg [0, 1] rfl ?_
  refine S.sil 8 rfl rfl (fun _ hF => .assign cNs) ?_
  refine S.sil 9 rfl rfl (fun _ hF => .assign cI) ?_
  refine S.nil ?_
  refine thenQ_n ?_
  refine AWp.seq ?_
  refine W.reg [0, 1, 2, 3, 4, 5, 6, 7, 8, 9, 10, 11, 12] rfl ?_
  refine S.sil 13 rfl rfl (fun _ hF => .fieldAddrC lay33 rfl rfl (lk 5 rfl rfl) rfl flL_nil) ?_
  refine S.sil 14 rfl rfl (fun _ hF => .loadC sz9 ag9 (lk 0 rfl rfl) rfl rfl) ?_
  refine S.qui 15 rfl rfl (fun _ => .loadP sz3 ag3 (lk 8 rfl rfl) rfl .nil (by first | rfl | omega) rfl rfl) ?_
  refine S.sil 16 rfl rfl (fun _ hF => .move (lk 5 rfl rfl)) ?_
  refine S.sil 17 rfl rfl (fun _ hF => .move (lk 7 rfl rfl)) ?_
  refine S.sil 18 rfl rfl (fun _ hF => .move (lk 9 rfl rfl)) ?_
  obtain ⟨r6, m6, h⟩ := h.bnd
  refine S.sil 19 rfl rfl (fun _ hF => .callQ ent99 cF (.c (lk 4 rfl rfl) (V.sub.refl _) (.c (lk 3 rfl rfl) (V.sub.refl _) (.c (lk 2 rfl rfl) (V.sub.refl _) (.c (lk 1 rfl rfl) (V.sub.refl _) (.c (lk 0 rfl rfl) (V.sub.refl _) .nil))))) (C_plan_made m6)) ?_
  refine S.sil 12 rfl rfl (fun _ hF => .move (lk 0 rfl rfl)) ?_
  refine S.sil 20 rfl rfl (fun _ hF => .extract (lk 0 rfl rfl) rfl) ?_
  refine S.sil 21 rfl rfl (fun _ hF => .extract (lk 1 rfl rfl) rfl) ?_
  refine S.eff 10 rfl rfl (.nf (v2 := .ptr 1 [] 0) (H2 := [.cells ((V.int .i64) b5), .cells (.st [V.str (default : ByteArray), (V.int .i64) 0, (V.int .i64) 0, E_TCounter (default : TCounter), E_TLock (default : TLock), .nils])]) (.alloc zv33) rfl rfl) trivial ?_
  refine S.effN rfl rfl (.nf (H2 := [.cells ((V.int .i64) b5), .cells (E_TField r6.1)]) (.storeP sz33 (lk 0 rfl rfl) (lk 2 rfl rfl) rfl (.refl _) rfl .nil (by first | rfl | omega) .nil (ty_TField.fl r6.1) (fl_st (flL_c (show flen _ = 1 from rfl) (flL_c (show flen _ = 1 from rfl) (flL_c (show flen _ = 1 from rfl) (flL_c (ty_TCounter.fl (default : TCounter)) (flL_c (ty_TLock.fl (default : TLock)) (flL_c (show flen _ = 1 from rfl) flL_nil))))))) rfl) rfl rfl) trivial ?_
  refine S.sil 11 rfl rfl (fun _ hF => .assign (lk 1 rfl rfl)) ?_
  refine S.nil ?_
  refine thenQ_n ?_
  refine AWp.wk (Wk.freeze 1 rfl rfl (.same (lk 0 rfl rfl) (.cons (lk 1 rfl rfl) rfl (.ptr .nil (by first | rfl | omega)) (.same (lk 12 rfl rfl) (.same (lk 13 rfl rfl) .nil)))) (.refl _)) ?_
  refine AWp.seq ?_
  refine W.reg [0, 1, 2, 3, 4] rfl ?_
  refine S.sil 22 rfl rfl (fun _ hF => .loadC sz33 ag33 (lk 1 rfl rfl) (ty_TField.fl r6.1) rfl) ?_
  obtain ⟨v7, ev7, h⟩ := h.nam
  refine S.eff 23 rfl rfl (.nf (v2 := .slo 587 2 [] 0 0 1 1) (H2 := [.cells ((V.int .i64) b5), .dead, .buf 587 (List.map E_TField v7)]) (.buildOwn (vs := List.map E_TField [r6.1]) sli49 zv33 rfl rfl (by decide) (.cons (lk 0 rfl rfl) rfl (.refl _) (ty_TField.fl r6.1) .nil) (congrArg (fun z => ([.cells ((V.int .i64) b5), .dead, AObj.buf 587 (List.map E_TField z)] : List AObj)) ev7.symm)) rfl rfl) trivial ?_
  refine S.sil 24 rfl rfl (fun _ hF => .move (lk 2 rfl rfl)) ?_
  refine S.sil 8 rfl rfl (fun _ hF => .assign (lk 1 rfl rfl)) ?_
  refine S.sil 9 rfl rfl (fun _ hF => .assign (lk 1 rfl rfl)) ?_
  refine S.nil ?_
  refine thenQ_n ?_
  refine AWp.ret ?_
  obtain rfl := h.ret
  exact endFN rfl (Wk.selS [0, 2] (by decide) rfl (SelE.spec (v := .slo 587 1 [] 0 0 v7.length 1) (lk 1 rfl rfl) rfl (.slo (by first | rfl | simp [ev7])) rfl rfl (SelE.leaf (lk 0 rfl rfl) rfl (.refl _) (fun m => ((TyOk.int .i64).lt _ _)) .nil)) (.cons (lt_cells ((TyOk.int .i64).lt _ _)) rfl (RSub.trans (.refl _) (.eq ((TyOk.int .i64).cl _ _).symm)) (.cons (lt_buf (xs := v7) ty_TField) rfl ⟨rfl, RSubL.leafr ty_TField _ rfl⟩ .nil))) (.cons (.tmp (lk 0 rfl rfl) rfl) (.cons (.tmp (lk 1 rfl rfl) rfl) .nil)) rfl rfl rfl
theorem C_lock_New {a1 : Int} {a2 : Int} {r : TLock × Int} (h : lock_New a1 a2 = some r) : PureC Pg 100 [(V.int .i64) a1, (V.int .i64) a2] (.tup [E_TLock r.1, (V.int .i64) r.2]) := by
  refine PureC.ofF (CallSpec.of_bodyF 19 0 fn100 rfl rfl rfl (Nat.le_of_ble_eq_true rfl) ?_) (ltL_c ((TyOk.int .i64).lt _ _) (ltL_c ((TyOk.int .i64).lt _ _) ltL_nil)) (lt_tup (ltL_c (ty_TLock.lt _ _) (ltL_c ((TyOk.int .i64).lt _ _) ltL_nil)))
  replace h := Ok.of h
  unfold lock_New at h
  refine AWp.seq ?_
  refine W.reg [0, 1] rfl ?_
  refine S.eff 4 rfl rfl (.nf (v2 := .ptr 0 [] 0) (H2 := [.cells (E_TLock (default : TLock))]) (.alloc zv30) rfl rfl) trivial ?_
  refine S.sil 5 rfl rfl (fun _ hF => .assign cI) ?_
  refine S.nil ?_
  refine thenQ_n ?_
  refine AWp.seq ?_
  refine AWp.block ?_
  refine AWp.seq ?_
  refine W.reg [0, 1, 2, 3] rfl ?_
  refine S.sil 7 rfl rfl (fun _ hF => .move (lk 2 rfl rfl)) ?_
  obtain ⟨r3, m3, h⟩ := h.bnd
  refine S.sil 8 rfl rfl (fun _ hF => .callQ ent129 cF (.c (lk 0 rfl rfl) (V.sub.refl _) .nil) (C_lock_is m3)) ?_
  refine S.sil 9 rfl rfl (fun _ hF => .not (lk 0 rfl rfl)) ?_
  refine S.sil 6 rfl rfl (fun _ hF => .assign (lk 0 rfl rfl)) ?_
  refine S.nil ?_
  refine thenQ_n ?_
  refine AWp.condM (lk 0 rfl rfl) h (fun c1 h => ?_) (fun c1 h => ?_)
  · skip
    refine AWp.seq ?_
    refine W.reg [0, 1, 2] rfl ?_
    refine S.sil 10 rfl rfl (fun _ hF => .nv (v2 := E_TLock (⟨0, 0, 0, 0⟩ : TLock)) (.buildStW lay30 zv30 rfl .nil) rfl) ?_
    obtain ⟨v4, ev4, h⟩ := h.nam
    refine S.effN rfl rfl (.nf (H2 := [.cells (E_TLock v4)]) (.storeP sz30 (lk 6 rfl rfl) (lk 0 rfl rfl) rfl (.refl _) rfl .nil (by first | rfl | omega) .nil (ty_TLock.fl (⟨0, 0, 0, 0⟩ : TLock)) (ty_TLock.fl (default : TLock)) (congrArg (fun z => ([AObj.cells (E_TLock z)] : List AObj)) ev4.symm)) rfl rfl) trivial ?_
    refine S.sil 5 rfl rfl (fun _ hF => .assign cI) ?_
    refine S.nil ?_
    refine thenQ_n ?_
    refine AWp.ret ?_
    refine blockQ_r ?_
    refine thenQ_r ?_
    refine endF_wk (Wk.freeze 0 rfl rfl (.same (lk 0 rfl rfl) (.same (lk 0 rfl rfl) (.cons (lk 7 rfl rfl) rfl (.ptr .nil (by first | rfl | omega)) .nil))) (.refl _)) ?_
    obtain rfl := h.ret
    exact endFN rfl (Wk.selS [] .nil rfl (SelE.leaf (lk 2 rfl rfl) rfl (.refl _) (fun m => (lt_cptr (ty_TLock.lt _ _))) (SelE.leaf (lk 0 rfl rfl) rfl (.refl _) (fun m => ((TyOk.int .i64).lt _ _)) .nil)) .nil) (.cons (.cellC sz30 ag30 (lk 0 rfl rfl) (ty_TLock.fl _) rfl) (.cons (.tmp (lk 1 rfl rfl) rfl) .nil)) rfl rfl rfl
  · skip
    refine AWp.seq ?_
    refine W.reg [0, 1, 2, 3] rfl ?_
    refine S.sil 12 rfl rfl (fun _ hF => .move (lk 7 rfl rfl)) ?_
    obtain ⟨r5, m5, h⟩ := h.bnd
    refine S.sil 13 rfl rfl (fun _ hF => .callQ ent64 cF (.c (lk 0 rfl rfl) (V.sub.refl _) .nil) (C_num_Is m5)) ?_
    refine S.sil 14 rfl rfl (fun _ hF => .not (lk 0 rfl rfl)) ?_
    refine S.sil 11 rfl rfl (fun _ hF => .assign (lk 0 rfl rfl)) ?_
    refine S.nil ?_
    refine thenQ_n ?_
    refine AWp.condM (lk 0 rfl rfl) h (fun c2 h => ?_) (fun c2 h => ?_)
    · skip
      refine AWp.seq ?_
      refine W.reg [0, 1, 2] rfl ?_
      refine S.sil 15 rfl rfl (fun _ hF => .nv (v2 := E_TLock (⟨0, 0, 0, 0⟩ : TLock)) (.buildStW lay30 zv30 rfl .nil) rfl) ?_
      obtain ⟨v6, ev6, h⟩ := h.nam
      refine S.effN rfl rfl (.nf (H2 := [.cells (E_TLock v6)]) (.storeP sz30 (lk 10 rfl rfl) (lk 0 rfl rfl) rfl (.refl _) rfl .nil (by first | rfl | omega) .nil (ty_TLock.fl (⟨0, 0, 0, 0⟩ : TLock)) (ty_TLock.fl (default : TLock)) (congrArg (fun z => ([AObj.cells (E_TLock z)] : List AObj)) ev6.symm)) rfl rfl) trivial ?_
      refine S.sil 5 rfl rfl (fun _ hF => .assign cI) ?_
      refine S.nil ?_
      refine thenQ_n ?_
      refine AWp.prune (.eq (lk 0 rfl rfl) rfl (.eq (lk 11 rfl rfl) rfl (.eq (lk 12 rfl rfl) rfl (.eq (lk 13 rfl rfl) rfl .nil)))) ?_
      refine AWp.ret ?_
      refine blockQ_r ?_
      refine thenQ_r ?_
      refine endF_wk (Wk.freeze 0 rfl rfl (.same (lk 0 rfl rfl) (.cons (lk 1 rfl rfl) rfl (.ptr .nil (by first | rfl | omega)) .nil)) (.refl _)) ?_
      obtain rfl := h.ret
      exact endFN rfl (Wk.selS [] .nil rfl (SelE.leaf (lk 1 rfl rfl) rfl (.refl _) (fun m => (lt_cptr (ty_TLock.lt _ _))) (SelE.leaf (lk 0 rfl rfl) rfl (.refl _) (fun m => ((TyOk.int .i64).lt _ _)) .nil)) .nil) (.cons (.cellC sz30 ag30 (lk 0 rfl rfl) (ty_TLock.fl _) rfl) (.cons (.tmp (lk 1 rfl rfl) rfl) .nil)) rfl rfl rfl
    · skip
      refine AWp.skip ?_
      refine blockQ_n ?_
      refine thenQ_n ?_
      refine AWp.seq ?_
      refine W.reg [0, 1, 2, 3, 4] rfl ?_
      refine S.sil 16 rfl rfl (fun _ hF => .move (lk 10 rfl rfl)) ?_
      refine S.sil 17 rfl rfl (fun _ hF => .move (lk 12 rfl rfl)) ?_
      refine S.sil 18 rfl rfl (fun _ hF => .nv (v2 := E_TLock (⟨0, 0, a1, a2⟩ : TLock)) (.buildStW lay30 zv30 rfl (.cons (lk 1 rfl rfl) rfl rfl rfl rfl (.cons (lk 0 rfl rfl) rfl rfl rfl rfl .nil))) rfl) ?_
      obtain ⟨v7, ev7, h⟩ := h.nam
      refine S.effN rfl rfl (.nf (H2 := [.cells (E_TLock v7)]) (.storeP sz30 (lk 12 rfl rfl) (lk 0 rfl rfl) rfl (.refl _) rfl .nil (by first | rfl | omega) .nil (ty_TLock.fl (⟨0, 0, a1, a2⟩ : TLock)) (ty_TLock.fl (default : TLock)) (congrArg (fun z => ([AObj.cells (E_TLock z)] : List AObj)) ev7.symm)) rfl rfl) trivial ?_
      refine S.sil 5 rfl rfl (fun _ hF => .assign cI) ?_
      refine S.nil ?_
      refine thenQ_n ?_
      refine AWp.prune (.eq (lk 0 rfl rfl) rfl (.eq (lk 13 rfl rfl) rfl .nil)) ?_
      refine AWp.ret ?_
      refine endF_wk (Wk.freeze 0 rfl rfl (.same (lk 0 rfl rfl) (.cons (lk 1 rfl rfl) rfl (.ptr .nil (by first | rfl | omega)) .nil)) (.refl _)) ?_
      obtain rfl := h.ret
      exact endFN rfl (Wk.selS [] .nil rfl (SelE.leaf (lk 1 rfl rfl) rfl (.refl _) (fun m => (lt_cptr (ty_TLock.lt _ _))) (SelE.leaf (lk 0 rfl rfl) rfl (.refl _) (fun m => ((TyOk.int .i64).lt _ _)) .nil)) .nil) (.cons (.cellC sz30 ag30 (lk 0 rfl rfl) (ty_TLock.fl _) rfl) (.cons (.tmp (lk 1 rfl rfl) rfl) .nil)) rfl rfl rfl
theorem C_plan_change_own {a1 : TField} {a2 : TField} {a3 : TPlan} {r : (List TField) × Int} (h : plan_change_own a1 a2 a3 = some r) : CallSpec Pg 49 [E_TField a1, E_TField a2, E_TPlan a3] [] fun o H' => o = .ret (.tup [.slo 587 0 [] 0 0 r.1.length 1, (V.int .i64) r.2]) ∧ H' = [.buf 587 (List.map E_TField r.1)] := by
  refine CallSpec.of_bodyF 178 0 fn49 rfl rfl rfl (Nat.le_of_ble_eq_true rfl) ?_
  replace h := Ok.of h
  unfold plan_change_own at h
  refine AWp.seq ?_
  refine W.reg [0, 1, 2, 3, 4] rfl ?_
  refine S.eff 3 rfl rfl (.nf (v2 := .ptr 0 [] 0) (H2 := [.cells (E_TField a1)]) (.box (lk 0 rfl rfl) rfl) rfl rfl) trivial ?_
  refine S.eff 4 rfl rfl (.nf (v2 := .ptr 1 [] 0) (H2 := [.cells (E_TField a1), .cells (E_TField a2)]) (.box (lk 2 rfl rfl) rfl) rfl rfl) trivial ?_
  refine S.eff 5 rfl rfl (.nf (v2 := .ptr 2 [] 0) (H2 := [.cells (E_TField a1), .cells (E_TField a2), .cells (E_TPlan a3)]) (.box (lk 4 rfl rfl) rfl) rfl rfl) trivial ?_
  refine S.sil 6 rfl rfl (fun _ hF => .assign cNs) ?_
  refine S.sil 7 rfl rfl (fun _ hF => .assign cI) ?_
  refine S.nil ?_
  refine thenQ_n ?_
  refine AWp.wk (Wk.freeze 0 rfl rfl (.same (lk 0 rfl rfl) (.same (lk 1 rfl rfl) (.same (lk 2 rfl rfl) (.same (lk 3 rfl rfl) (.cons (lk 4 rfl rfl) rfl (.ptr .nil (by first | rfl | omega)) .nil))))) (.refl _)) ?_
  refine AWp.wk (Wk.freeze 1 rfl rfl (.same (lk 0 rfl rfl) (.same (lk 1 rfl rfl) (.same (lk 2 rfl rfl) (.cons (lk 3 rfl rfl) rfl (.ptr .nil (by first | rfl | omega)) (.same (lk 4 rfl rfl) .nil))))) (.refl _)) ?_
  refine AWp.wk (Wk.freeze 2 rfl rfl (.same (lk 0 rfl rfl) (.same (lk 1 rfl rfl) (.cons (lk 2 rfl rfl) rfl (.ptr .nil (by first | rfl | omega)) (.same (lk 3 rfl rfl) (.same (lk 4 rfl rfl) .nil))))) (.refl _)) ?_
  refine AWp.seq ?_
  refine W.reg [0, 1, 2, 3, 4, 5, 6] rfl ?_
  refine S.sil 22 rfl rfl (fun _ hF => .loadC sz33 ag33 (lk 4 rfl rfl) (ty_TField.fl a1) rfl) ?_
  obtain ⟨r4, m4, h⟩ := h.bnd
  refine S.sil 23 rfl rfl (fun _ hF => .callQ ent61 cF (.c (lk 0 rfl rfl) (V.sub.refl _) .nil) (C_field_View m4)) ?_
  refine S.sil 21 rfl rfl (fun _ hF => .move (lk 0 rfl rfl)) ?_
  refine S.sil 24 rfl rfl (fun _ hF => .extract (lk 0 rfl rfl) rfl) ?_
  refine S.sil 25 rfl rfl (fun _ hF => .extract (lk 1 rfl rfl) rfl) ?_
  refine S.sil 8 rfl rfl (fun _ hF => .assign (lk 1 rfl rfl)) ?_
  refine S.sil 9 rfl rfl (fun _ hF => .assign (lk 1 rfl rfl)) ?_
  refine S.nil ?_
  refine thenQ_n ?_
  refine AWp.seq ?_
  refine W.reg [0, 1, 2, 3, 4, 5, 6] rfl ?_
  refine S.sil 27 rfl rfl (fun _ hF => .loadC sz33 ag33 (lk 10 rfl rfl) (ty_TField.fl a2) rfl) ?_
  obtain ⟨r5, m5, h⟩ := h.bnd
  refine S.sil 28 rfl rfl (fun _ hF => .callQ ent61 cF (.c (lk 0 rfl rfl) (V.sub.refl _) .nil) (C_field_View m5)) ?_
  refine S.sil 26 rfl rfl (fun _ hF => .move (lk 0 rfl rfl)) ?_
  refine S.sil 29 rfl rfl (fun _ hF => .extract (lk 0 rfl rfl) rfl) ?_
  refine S.sil 30 rfl rfl (fun _ hF => .extract (lk 1 rfl rfl) rfl) ?_
  refine S.sil 10 rfl rfl (fun _ hF => .assign (lk 1 rfl rfl)) ?_
  refine S.sil 11 rfl rfl (fun _ hF => .assign (lk 1 rfl rfl)) ?_
  refine S.nil ?_
  refine thenQ_n ?_
  refine AWp.prune (.eq (lk 0 rfl rfl) rfl (.eq (lk 1 rfl rfl) rfl (.eq (lk 7 rfl rfl) rfl (.eq (lk 8 rfl rfl) rfl (.eq (lk 14 rfl rfl) rfl (.eq (lk 15 rfl rfl) rfl (.eq (lk 16 rfl rfl) rfl (.eq (lk 17 rfl rfl) rfl (.eq (lk 18 rfl rfl) rfl .nil))))))))) ?_
  refine AWp.seq ?_
  refine AWp.seq ?_
  refine W.reg [0, 1, 2, 3, 4, 5, 6, 7, 8, 9, 10] rfl ?_
  refine S.sil 31 rfl rfl (fun _ hF => .move (lk 2 rfl rfl)) ?_
  refine S.sil 32 rfl rfl (fun _ hF => .neq (lk 0 rfl rfl) cI) ?_
  refine S.sil 33 rfl rfl (fun _ hF => .move (lk 0 rfl rfl)) ?_
  refine S.gsil 34 2 33 false rfl rfl rfl (lk 0 rfl rfl) (fun hB _ hF => .move (lk 3 rfl rfl)) ?_
  refine S.gsil 35 2 33 false rfl rfl rfl (lk 1 rfl rfl) (fun hB _ hF => .neq (ifT hB (lk 0 rfl rfl)) cI) ?_
  refine S.gsil 36 2 33 false rfl rfl rfl (lk 2 rfl rfl) (fun hB _ hF => .move (ifT hB (lk 0 rfl rfl))) ?_
  refine S.gsil2 37 5 36 true rfl rfl rfl (lk 0 rfl rfl) (fun hB _ hF => .fieldAddrC lay51 rfl rfl (lk 12 rfl rfl) rfl flL_nil) ?_
  refine S.gsil2 38 5 36 true rfl rfl rfl (lk 1 rfl rfl) (fun hB _ hF => .loadC sz3 ag3 (ifT hB (lk 0 rfl rfl)) rfl rfl) ?_
  refine S.gsil2 39 5 36 true rfl rfl rfl (lk 2 rfl rfl) (fun hB _ hF => .eql (ifT hB (lk 0 rfl rfl)) cI) ?_
  refine S.gsil 40 2 33 false rfl rfl rfl (lk 6 rfl rfl) (fun hB _ hF => .pickAnd (ifT hB (lk 3 rfl rfl)) (fun h => ifT ⟨hB, h⟩ (lk 0 rfl rfl)) cB) ?_
  obtain ⟨v6, ev6, h⟩ := h.nam
  refine S.sil 41 rfl rfl (fun _ hF => .nv (.pickOr (lk 7 rfl rfl) cB (fun h => ifT h (lk 0 rfl rfl))) (congrArg V.bool ev6.symm)) ?_
  refine S.nil ?_
  refine thenQ_n ?_
  refine AWp.prune (.eq (lk 0 rfl rfl) rfl (.eq (lk 12 rfl rfl) rfl (.eq (lk 13 rfl rfl) rfl (.eq (lk 14 rfl rfl) rfl (.eq (lk 15 rfl rfl) rfl (.eq (lk 16 rfl rfl) rfl (.eq (lk 17 rfl rfl) rfl (.eq (lk 18 rfl rfl) rfl (.eq (lk 19 rfl rfl) rfl .nil))))))))) ?_
  refine AWp.condM (lk 0 rfl rfl) h (fun c1 h => ?_) (fun c1 h => ?_)
  · skip
    refine AWp.seq ?_
    refine W.reg [0, 1] rfl ?_
    refine S.sil 6 rfl rfl (fun _ hF => .assign cNs) ?_
    refine S.sil 7 rfl rfl (fun _ hF => .assign cI) ?_
    refine S.nil ?_
    refine thenQ_n ?_
    refine AWp.ret ?_
    refine thenQ_r ?_
    refine endF_wk (Wk.nilbuf 587 (lk 1 rfl rfl)) ?_
    obtain rfl := h.ret
    exact endFN rfl (Wk.selS [3] (by decide) rfl (SelE.spec (v := .slo 587 0 [] 0 0 ([] : List TField).length 1) (lk 0 rfl rfl) rfl (.slo (by first | rfl | simp)) rfl rfl (SelE.leaf (lk 1 rfl rfl) rfl (.refl _) (fun m => ((TyOk.int .i64).lt _ _)) .nil)) (.cons rfl rfl (ASub.refl _) .nil)) (.cons (.tmp (lk 0 rfl rfl) rfl) (.cons (.tmp (lk 1 rfl rfl) rfl) .nil)) rfl rfl rfl
  · skip
    refine AWp.skip ?_
    refine thenQ_n ?_
    refine AWp.seq ?_
    refine W.regD [0, 1, 2, 3, 4, 5, 6, 7, 8, 9, 10, 11, 12] mixed ?_
    refine S.sil 42 rfl rfl (fun _ hF => .fieldAddrC lay33 rfl rfl (lk 8 rfl rfl) rfl (flL_c (show flen _ = 1 from rfl) (flL_c (show flen _ = 1 from rfl) (flL_c (show flen _ = 1 from rfl) flL_nil)))) ?_
    refine S.sil 43 rfl rfl (fun _ hF => .fieldAddrC lay28 rfl rfl (lk 0 rfl rfl) rfl (flL_c (show flen _ = 1 from rfl) flL_nil)) ?_
    refine S.sil 44 rfl rfl (fun _ hF => .loadC sz3 ag3 (lk 0 rfl rfl) rfl rfl) ?_
    refine S.sil 45 rfl rfl (fun _ hF => .fieldAddrC lay33 rfl rfl (lk 11 rfl rfl) rfl (flL_c (show flen _ = 1 from rfl) (flL_c (show flen _ = 1 from rfl) (flL_c (show flen _ = 1 from rfl) flL_nil)))) ?_
    refine S.sil 46 rfl rfl (fun _ hF => .fieldAddrC lay28 rfl rfl (lk 0 rfl rfl) rfl (flL_c (show flen _ = 1 from rfl) (flL_c (show flen _ = 1 from rfl) flL_nil))) ?_
    refine S.sil 47 rfl rfl (fun _ hF => .loadC sz3 ag3 (lk 0 rfl rfl) rfl rfl) ?_
    refine S.sil 48 rfl rfl (fun _ hF => .fieldAddrC lay33 rfl rfl (lk 14 rfl rfl) rfl (flL_c (show flen _ = 1 from rfl) (flL_c (show flen _ = 1 from rfl) flL_nil))) ?_
    refine S.sil 49 rfl rfl (fun _ hF => .loadC sz3 ag3 (lk 0 rfl rfl) rfl rfl) ?_
    refine S.sil 50 rfl rfl (fun _ hF => .add (lk 0 rfl rfl) cI) ?_
    refine S.new 14 rfl rfl (.alloc zv3) trivial ?_
    refine S.sil 12 rfl rfl (fun _ hF => .assign (lk 7 rfl rfl)) ?_
    refine S.sil 13 rfl rfl (fun _ hF => .assign (lk 5 rfl rfl)) ?_
    obtain ⟨v7, ev7, h⟩ := h.nam
    refine S.effN rfl rfl (.storeP sz3 (lk 2 rfl rfl) (lk 3 rfl rfl) rfl (.refl _) rfl .nil (by first | rfl | omega) .nil rfl rfl (congrArg (fun z => ([.dead, .dead, .dead, AObj.cells ((V.int .i64) z)] : List AObj)) ev7.symm)) trivial ?_
    refine S.nilD (by kernel_rfl) ?_
    refine thenQ_n ?_
    refine AWp.prune (.eq (lk 0 rfl rfl) rfl (.eq (lk 1 rfl rfl) rfl (.eq (lk 2 rfl rfl) rfl (.eq (lk 13 rfl rfl) rfl (.eq (lk 14 rfl rfl) rfl (.eq (lk 15 rfl rfl) rfl (.eq (lk 16 rfl rfl) rfl (.eq (lk 17 rfl rfl) rfl (.eq (lk 18 rfl rfl) rfl (.eq (lk 19 rfl rfl) rfl (.eq (lk 20 rfl rfl) rfl .nil))))))))))) ?_
    refine AWp.seq ?_
    refine W.reg [0, 1] rfl ?_
    refine S.sil 51 rfl rfl (fun _ hF => .makeFunc rfl (mapE2 (lk 10 rfl rfl) (lk 2 rfl rfl)) rfl rfl) ?_
    refine S.sil 15 rfl rfl (fun _ hF => .assign (lk 0 rfl rfl)) ?_
    refine S.nil ?_
    refine thenQ_n ?_
    refine AWp.seq ?_
    refine AWp.seq ?_
    refine W.reg [0, 1] rfl ?_
    refine S.sil 52 rfl rfl (fun _ hF => .fieldAddrC lay51 rfl rfl (lk 10 rfl rfl) rfl flL_nil) ?_
    refine S.sil 53 rfl rfl (fun _ hF => .loadC sz3 ag3 (lk 0 rfl rfl) rfl rfl) ?_
    refine S.nil ?_
    refine thenQ_n ?_
    refine AWp.block ?_
    refine AWp.seq ?_
    refine W.reg [0, 1] rfl ?_
    refine S.sil 55 rfl rfl (fun _ hF => .eql (lk 0 rfl rfl) cI) ?_
    refine S.sil 54 rfl rfl (fun _ hF => .assign (lk 0 rfl rfl)) ?_
    refine S.nil ?_
    refine thenQ_n ?_
    refine AWp.condM (lk 0 rfl rfl) h (fun c2 h => ?_) (fun c2 h => ?_)
    · skip
      refine AWp.seq ?_
      refine W.reg [0, 1, 2, 3, 4, 5, 6, 7, 8, 9, 10, 11, 12, 13, 14] rfl ?_
      refine S.sil 56 rfl rfl (fun _ hF => .move (lk 4 rfl rfl)) ?_
      refine S.sil 57 rfl rfl (fun _ hF => .move (lk 12 rfl rfl)) ?_
      refine S.sil 58 rfl rfl (fun _ hF => .move (lk 9 rfl rfl)) ?_
      refine S.sil 59 rfl rfl (fun _ hF => .fieldAddrC lay51 rfl rfl (lk 17 rfl rfl) rfl (flL_c (show flen _ = 1 from rfl) (flL_c (show flen _ = 1 from rfl) (flL_c (show flen _ = 1 from rfl) flL_nil)))) ?_
      refine S.sil 60 rfl rfl (fun _ hF => .loadC sz3 ag3 (lk 0 rfl rfl) rfl rfl) ?_
      refine S.sil 61 rfl rfl (fun _ hF => .add (lk 2 rfl rfl) (lk 0 rfl rfl)) ?_
      refine S.sil 62 rfl rfl (fun _ hF => .move (lk 12 rfl rfl)) ?_
      refine S.sil 63 rfl rfl (fun _ hF => .fieldAddrC lay51 rfl rfl (lk 21 rfl rfl) rfl (flL_c (show flen _ = 1 from rfl) (flL_c (show flen _ = 1 from rfl) (flL_c (show flen _ = 1 from rfl) (flL_c (show flen _ = 1 from rfl) flL_nil))))) ?_
      refine S.sil 64 rfl rfl (fun _ hF => .loadC sz3 ag3 (lk 0 rfl rfl) rfl rfl) ?_
      refine S.sil 65 rfl rfl (fun _ hF => .sub (lk 2 rfl rfl) (lk 0 rfl rfl)) ?_
      obtain ⟨r8, m8, h⟩ := h.bnd
      refine S.eff 66 rfl rfl (.nf (v2 := .tup [.slo 587 4 [] 0 0 r8.1.length 1, (V.int .i64) r8.2.1]) (H2 := [.dead, .dead, .dead, .cells ((V.int .i64) r8.2.2), .buf 587 (List.map E_TField r8.1)]) (.callH ent98 (lk 9 rfl rfl) [3] (C_plan_change_1_own m8) (by decide) (.cons (lt_cells ((TyOk.int .i64).lt _ _)) rfl (RSub.trans (.refl _) (.eq ((TyOk.int .i64).cl _ _).symm)) .nil) (ltL_c ((TyOk.int .i64).lt _ _) (ltL_c ((TyOk.int .i64).lt _ _) (ltL_c ((TyOk.int .i64).lt _ _) (ltL_c (lt_cptr (ty_TField.lt _ _)) (ltL_c rfl ltL_nil))))) (.c (lk 8 rfl rfl) (vsubr (V.sub.refl _) ((TyOk.int .i64).lt _ _)) (.c (lk 4 rfl rfl) (vsubr (V.sub.refl _) ((TyOk.int .i64).lt _ _)) (.c (lk 0 rfl rfl) (vsubr (V.sub.refl _) ((TyOk.int .i64).lt _ _)) (.cons (vsubr (V.sub.refl _) (lt_cptr (ty_TField.lt _ _))) (.cons (subren rfl) .nil))))) (ren_tup (renL_c rfl (renL_c ((TyOk.int .i64).cl _ _) rfl))) (mapc (ren_cells ((TyOk.int .i64).cl _ _)) (mapc (ren_buf ty_TField _) rfl)) rfl) rfl rfl) trivial ?_
      refine S.sil 67 rfl rfl (fun _ hF => .extract (lk 0 rfl rfl) rfl) ?_
      refine S.sil 68 rfl rfl (fun _ hF => .extract (lk 1 rfl rfl) rfl) ?_
      refine S.sil 6 rfl rfl (fun _ hF => .assign (lk 1 rfl rfl)) ?_
      refine S.sil 7 rfl rfl (fun _ hF => .assign (lk 1 rfl rfl)) ?_
      refine S.nil ?_
      refine thenQ_n ?_
      refine AWp.prune (.eq (lk 0 rfl rfl) rfl (.eq (lk 1 rfl rfl) rfl (.eq (lk 23 rfl rfl) rfl (.eq (lk 25 rfl rfl) rfl (.eq (lk 26 rfl rfl) rfl (.eq (lk 31 rfl rfl) rfl .nil)))))) ?_
      refine AWp.ret ?_
      refine blockQ_r ?_
      refine thenQ_r ?_
      obtain rfl := h.ret
      exact endFN rfl (Wk.selS [4] (by decide) rfl (SelE.spec (v := .slo 587 0 [] 0 0 r8.1.length 1) (lk 1 rfl rfl) rfl (.slo (by first | rfl | simp)) rfl rfl (SelE.leaf (lk 0 rfl rfl) rfl (.refl _) (fun m => ((TyOk.int .i64).lt _ _)) .nil)) (.cons (lt_buf (xs := r8.1) ty_TField) rfl ⟨rfl, RSubL.leafr ty_TField _ rfl⟩ .nil)) (.cons (.tmp (lk 0 rfl rfl) rfl) (.cons (.tmp (lk 1 rfl rfl) rfl) .nil)) rfl rfl rfl
    · skip
      refine AWp.seq ?_
      refine W.reg [0, 1] rfl ?_
      refine S.sil 70 rfl rfl (fun _ hF => .eql (lk 2 rfl rfl) cI) ?_
      refine S.sil 69 rfl rfl (fun _ hF => .assign (lk 0 rfl rfl)) ?_
      refine S.nil ?_
      refine thenQ_n ?_
      refine AWp.condM (lk 0 rfl rfl) h (fun c3 h => ?_) (fun c3 h => ?_)
      · skip
        refine AWp.seq ?_
        refine W.reg [0, 1, 2, 3, 4, 5, 6, 7, 8, 9, 10, 11, 12, 13, 14] rfl ?_
        refine S.sil 71 rfl rfl (fun _ hF => .move (lk 6 rfl rfl)) ?_
        refine S.sil 72 rfl rfl (fun _ hF => .move (lk 14 rfl rfl)) ?_
        refine S.sil 73 rfl rfl (fun _ hF => .move (lk 11 rfl rfl)) ?_
        refine S.sil 74 rfl rfl (fun _ hF => .fieldAddrC lay51 rfl rfl (lk 19 rfl rfl) rfl (flL_c (show flen _ = 1 from rfl) (flL_c (show flen _ = 1 from rfl) (flL_c (show flen _ = 1 from rfl) flL_nil)))) ?_
        refine S.sil 75 rfl rfl (fun _ hF => .loadC sz3 ag3 (lk 0 rfl rfl) rfl rfl) ?_
        refine S.sil 76 rfl rfl (fun _ hF => .sub (lk 2 rfl rfl) (lk 0 rfl rfl)) ?_
        refine S.sil 77 rfl rfl (fun _ hF => .move (lk 14 rfl rfl)) ?_
        refine S.sil 78 rfl rfl (fun _ hF => .fieldAddrC lay51 rfl rfl (lk 23 rfl rfl) rfl (flL_c (show flen _ = 1 from rfl) (flL_c (show flen _ = 1 from rfl) (flL_c (show flen _ = 1 from rfl) (flL_c (show flen _ = 1 from rfl) flL_nil))))) ?_
        refine S.sil 79 rfl rfl (fun _ hF => .loadC sz3 ag3 (lk 0 rfl rfl) rfl rfl) ?_
        refine S.sil 80 rfl rfl (fun _ hF => .add (lk 2 rfl rfl) (lk 0 rfl rfl)) ?_
        obtain ⟨r9, m9, h⟩ := h.bnd
        refine S.eff 81 rfl rfl (.nf (v2 := .tup [.slo 587 4 [] 0 0 r9.1.length 1, (V.int .i64) r9.2.1]) (H2 := [.dead, .dead, .dead, .cells ((V.int .i64) r9.2.2), .buf 587 (List.map E_TField r9.1)]) (.callH ent98 (lk 9 rfl rfl) [3] (C_plan_change_1_own m9) (by decide) (.cons (lt_cells ((TyOk.int .i64).lt _ _)) rfl (RSub.trans (.refl _) (.eq ((TyOk.int .i64).cl _ _).symm)) .nil) (ltL_c ((TyOk.int .i64).lt _ _) (ltL_c ((TyOk.int .i64).lt _ _) (ltL_c ((TyOk.int .i64).lt _ _) (ltL_c (lt_cptr (ty_TField.lt _ _)) (ltL_c rfl ltL_nil))))) (.c (lk 8 rfl rfl) (vsubr (V.sub.refl _) ((TyOk.int .i64).lt _ _)) (.c (lk 4 rfl rfl) (vsubr (V.sub.refl _) ((TyOk.int .i64).lt _ _)) (.c (lk 0 rfl rfl) (vsubr (V.sub.refl _) ((TyOk.int .i64).lt _ _)) (.cons (vsubr (V.sub.refl _) (lt_cptr (ty_TField.lt _ _))) (.cons (subren rfl) .nil))))) (ren_tup (renL_c rfl (renL_c ((TyOk.int .i64).cl _ _) rfl))) (mapc (ren_cells ((TyOk.int .i64).cl _ _)) (mapc (ren_buf ty_TField _) rfl)) rfl) rfl rfl) trivial ?_
        refine S.sil 82 rfl rfl (fun _ hF => .extract (lk 0 rfl rfl) rfl) ?_
        refine S.sil 83 rfl rfl (fun _ hF => .extract (lk 1 rfl rfl) rfl) ?_
        refine S.sil 6 rfl rfl (fun _ hF => .assign (lk 1 rfl rfl)) ?_
        refine S.sil 7 rfl rfl (fun _ hF => .assign (lk 1 rfl rfl)) ?_
        refine S.nil ?_
        refine thenQ_n ?_
        refine AWp.prune (.eq (lk 0 rfl rfl) rfl (.eq (lk 1 rfl rfl) rfl (.eq (lk 25 rfl rfl) rfl (.eq (lk 27 rfl rfl) rfl (.eq (lk 28 rfl rfl) rfl (.eq (lk 33 rfl rfl) rfl .nil)))))) ?_
        refine AWp.ret ?_
        refine blockQ_r ?_
        refine thenQ_r ?_
        obtain rfl := h.ret
        exact endFN rfl (Wk.selS [4] (by decide) rfl (SelE.spec (v := .slo 587 0 [] 0 0 r9.1.length 1) (lk 1 rfl rfl) rfl (.slo (by first | rfl | simp)) rfl rfl (SelE.leaf (lk 0 rfl rfl) rfl (.refl _) (fun m => ((TyOk.int .i64).lt _ _)) .nil)) (.cons (lt_buf (xs := r9.1) ty_TField) rfl ⟨rfl, RSubL.leafr ty_TField _ rfl⟩ .nil)) (.cons (.tmp (lk 0 rfl rfl) rfl) (.cons (.tmp (lk 1 rfl rfl) rfl) .nil)) rfl rfl rfl
      · skip
        refine AWp.seq ?_
        refine W.reg [0, 1] rfl ?_
        refine S.sil 85 rfl rfl (fun _ hF => .eql (lk 4 rfl rfl) cI) ?_
        refine S.sil 84 rfl rfl (fun _ hF => .assign (lk 0 rfl rfl)) ?_
        refine S.nil ?_
        refine thenQ_n ?_
        refine AWp.condM (lk 0 rfl rfl) h (fun c4 h => ?_) (fun c4 h => ?_)
        · skip
          refine AWp.seq ?_
          refine W.reg [0, 1, 2, 3, 4, 5, 6, 7, 8, 9, 10] rfl ?_
          refine S.sil 86 rfl rfl (fun _ hF => .move (lk 8 rfl rfl)) ?_
          refine S.sil 87 rfl rfl (fun _ hF => .move (lk 16 rfl rfl)) ?_
          refine S.sil 88 rfl rfl (fun _ hF => .fieldAddrC lay51 rfl rfl (lk 20 rfl rfl) rfl (flL_c (show flen _ = 1 from rfl) (flL_c (show flen _ = 1 from rfl) (flL_c (show flen _ = 1 from rfl) flL_nil)))) ?_
          refine S.sil 89 rfl rfl (fun _ hF => .loadC sz3 ag3 (lk 0 rfl rfl) rfl rfl) ?_
          refine S.sil 90 rfl rfl (fun _ hF => .fieldAddrC lay51 rfl rfl (lk 22 rfl rfl) rfl (flL_c (show flen _ = 1 from rfl) (flL_c (show flen _ = 1 from rfl) (flL_c (show flen _ = 1 from rfl) (flL_c (show flen _ = 1 from rfl) flL_nil))))) ?_
          refine S.sil 91 rfl rfl (fun _ hF => .loadC sz3 ag3 (lk 0 rfl rfl) rfl rfl) ?_
          obtain ⟨r10, m10, h⟩ := h.bnd
          refine S.eff 92 rfl rfl (.nf (v2 := .tup [.slo 587 4 [] 0 0 r10.1.length 1, (V.int .i64) r10.2.1]) (H2 := [.dead, .dead, .dead, .cells ((V.int .i64) r10.2.2), .buf 587 (List.map E_TField r10.1)]) (.callH ent98 (lk 5 rfl rfl) [3] (C_plan_change_1_own m10) (by decide) (.cons (lt_cells ((TyOk.int .i64).lt _ _)) rfl (RSub.trans (.refl _) (.eq ((TyOk.int .i64).cl _ _).symm)) .nil) (ltL_c ((TyOk.int .i64).lt _ _) (ltL_c ((TyOk.int .i64).lt _ _) (ltL_c ((TyOk.int .i64).lt _ _) (ltL_c (lt_cptr (ty_TField.lt _ _)) (ltL_c rfl ltL_nil))))) (.c (lk 4 rfl rfl) (vsubr (V.sub.refl _) ((TyOk.int .i64).lt _ _)) (.c (lk 2 rfl rfl) (vsubr (V.sub.refl _) ((TyOk.int .i64).lt _ _)) (.c (lk 0 rfl rfl) (vsubr (V.sub.refl _) ((TyOk.int .i64).lt _ _)) (.cons (vsubr (V.sub.refl _) (lt_cptr (ty_TField.lt _ _))) (.cons (subren rfl) .nil))))) (ren_tup (renL_c rfl (renL_c ((TyOk.int .i64).cl _ _) rfl))) (mapc (ren_cells ((TyOk.int .i64).cl _ _)) (mapc (ren_buf ty_TField _) rfl)) rfl) rfl rfl) trivial ?_
          refine S.sil 93 rfl rfl (fun _ hF => .extract (lk 0 rfl rfl) rfl) ?_
          refine S.sil 94 rfl rfl (fun _ hF => .extract (lk 1 rfl rfl) rfl) ?_
          refine S.sil 6 rfl rfl (fun _ hF => .assign (lk 1 rfl rfl)) ?_
          refine S.sil 7 rfl rfl (fun _ hF => .assign (lk 1 rfl rfl)) ?_
          refine S.nil ?_
          refine thenQ_n ?_
          refine AWp.prune (.eq (lk 0 rfl rfl) rfl (.eq (lk 1 rfl rfl) rfl (.eq (lk 23 rfl rfl) rfl (.eq (lk 25 rfl rfl) rfl (.eq (lk 26 rfl rfl) rfl (.eq (lk 31 rfl rfl) rfl .nil)))))) ?_
          refine AWp.ret ?_
          refine blockQ_r ?_
          refine thenQ_r ?_
          obtain rfl := h.ret
          exact endFN rfl (Wk.selS [4] (by decide) rfl (SelE.spec (v := .slo 587 0 [] 0 0 r10.1.length 1) (lk 1 rfl rfl) rfl (.slo (by first | rfl | simp)) rfl rfl (SelE.leaf (lk 0 rfl rfl) rfl (.refl _) (fun m => ((TyOk.int .i64).lt _ _)) .nil)) (.cons (lt_buf (xs := r10.1) ty_TField) rfl ⟨rfl, RSubL.leafr ty_TField _ rfl⟩ .nil)) (.cons (.tmp (lk 0 rfl rfl) rfl) (.cons (.tmp (lk 1 rfl rfl) rfl) .nil)) rfl rfl rfl
        · skip
          refine AWp.seq ?_
          refine W.reg [0, 1] rfl ?_
          refine S.sil 96 rfl rfl (fun _ hF => .eql (lk 6 rfl rfl) cI) ?_
          refine S.sil 95 rfl rfl (fun _ hF => .assign (lk 0 rfl rfl)) ?_
          refine S.nil ?_
          refine thenQ_n ?_
          refine AWp.condM (lk 0 rfl rfl) h (fun c5 h => ?_) (fun c5 h => ?_)
          · skip
            refine AWp.seq ?_
            refine W.reg [0, 1, 2, 3, 4, 5, 6] rfl ?_
            refine S.sil 97 rfl rfl (fun _ hF => .fieldAddrC lay33 rfl rfl (lk 22 rfl rfl) rfl (flL_c (show flen _ = 1 from rfl) (flL_c (show flen _ = 1 from rfl) flL_nil))) ?_
            refine S.sil 98 rfl rfl (fun _ hF => .loadC sz3 ag3 (lk 0 rfl rfl) rfl rfl) ?_
            refine S.sil 99 rfl rfl (fun _ hF => .fieldAddrC lay33 rfl rfl (lk 23 rfl rfl) rfl (flL_c (show flen _ = 1 from rfl) (flL_c (show flen _ = 1 from rfl) flL_nil))) ?_
            refine S.sil 100 rfl rfl (fun _ hF => .loadC sz3 ag3 (lk 0 rfl rfl) rfl rfl) ?_
            refine S.sil 101 rfl rfl (fun _ hF => .bmax (lk 2 rfl rfl) (lk 0 rfl rfl)) ?_
            refine S.sil 102 rfl rfl (fun _ hF => .add (lk 0 rfl rfl) cI) ?_
            obtain ⟨v11, ev11, h⟩ := h.nam
            refine S.effN rfl rfl (.nf (H2 := [.dead, .dead, .dead, .cells ((V.int .i64) v11)]) (.storeP sz3 (lk 20 rfl rfl) (lk 0 rfl rfl) rfl (.refl _) rfl .nil (by first | rfl | omega) .nil rfl rfl (congrArg (fun z => ([.dead, .dead, .dead, AObj.cells ((V.int .i64) z)] : List AObj)) ev11.symm)) rfl rfl) trivial ?_
            refine S.nil ?_
            refine thenQ_n ?_
            refine AWp.prune (.eq (lk 16 rfl rfl) rfl (.eq (lk 18 rfl rfl) rfl (.eq (lk 19 rfl rfl) rfl (.eq (lk 20 rfl rfl) rfl (.eq (lk 21 rfl rfl) rfl (.eq (lk 22 rfl rfl) rfl (.eq (lk 23 rfl rfl) rfl (.eq (lk 24 rfl rfl) rfl (.eq (lk 25 rfl rfl) rfl (.eq (lk 27 rfl rfl) rfl (.eq (lk 28 rfl rfl) rfl .nil))))))))))) ?_
            refine AWp.seq ?_
            refine W.reg [0, 1, 2, 3, 4, 5, 6, 7, 8, 9, 10, 11, 12, 13, 14, 15, 16, 17, 18] rfl ?_
            refine S.sil 103 rfl rfl (fun _ hF => .move (lk 0 rfl rfl)) ?_
            refine S.sil 104 rfl rfl (fun _ hF => .move (lk 7 rfl rfl)) ?_
            refine S.sil 105 rfl rfl (fun _ hF => .move (lk 6 rfl rfl)) ?_
            refine S.sil 106 rfl rfl (fun _ hF => .add (lk 1 rfl rfl) (lk 0 rfl rfl)) ?_
            refine S.sil 107 rfl rfl (fun _ hF => .move (lk 6 rfl rfl)) ?_
            refine S.sil 108 rfl rfl (fun _ hF => .fieldAddrC lay33 rfl rfl (lk 14 rfl rfl) rfl (flL_c (show flen _ = 1 from rfl) (flL_c (show flen _ = 1 from rfl) (flL_c (show flen _ = 1 from rfl) flL_nil)))) ?_
            refine S.sil 109 rfl rfl (fun _ hF => .fieldAddrC lay28 rfl rfl (lk 0 rfl rfl) rfl (flL_c (show flen _ = 1 from rfl) flL_nil)) ?_
            refine S.sil 110 rfl rfl (fun _ hF => .loadC sz3 ag3 (lk 0 rfl rfl) rfl rfl) ?_
            refine S.sil 111 rfl rfl (fun _ hF => .add (lk 3 rfl rfl) (lk 0 rfl rfl)) ?_
            refine S.sil 112 rfl rfl (fun _ hF => .move (lk 10 rfl rfl)) ?_
            refine S.sil 113 rfl rfl (fun _ hF => .fieldAddrC lay33 rfl rfl (lk 19 rfl rfl) rfl (flL_c (show flen _ = 1 from rfl) (flL_c (show flen _ = 1 from rfl) (flL_c (show flen _ = 1 from rfl) flL_nil)))) ?_
            refine S.sil 114 rfl rfl (fun _ hF => .fieldAddrC lay28 rfl rfl (lk 0 rfl rfl) rfl (flL_c (show flen _ = 1 from rfl) (flL_c (show flen _ = 1 from rfl) flL_nil))) ?_
            refine S.sil 115 rfl rfl (fun _ hF => .loadC sz3 ag3 (lk 0 rfl rfl) rfl rfl) ?_
            refine S.sil 116 rfl rfl (fun _ hF => .add (lk 3 rfl rfl) (lk 0 rfl rfl)) ?_
            obtain ⟨r12, m12, h⟩ := h.bnd
            refine S.eff 117 rfl rfl (.nf (v2 := .tup [.slo 587 4 [] 0 0 r12.1.length 1, (V.int .i64) r12.2.1]) (H2 := [.dead, .dead, .dead, .cells ((V.int .i64) r12.2.2), .buf 587 (List.map E_TField r12.1)]) (.callH ent98 (lk 13 rfl rfl) [3] (C_plan_change_1_own m12) (by decide) (.cons (lt_cells ((TyOk.int .i64).lt _ _)) rfl (RSub.trans (.refl _) (.eq ((TyOk.int .i64).cl _ _).symm)) .nil) (ltL_c ((TyOk.int .i64).lt _ _) (ltL_c ((TyOk.int .i64).lt _ _) (ltL_c ((TyOk.int .i64).lt _ _) (ltL_c (lt_cptr (ty_TField.lt _ _)) (ltL_c rfl ltL_nil))))) (.c (lk 10 rfl rfl) (vsubr (V.sub.refl _) ((TyOk.int .i64).lt _ _)) (.c (lk 5 rfl rfl) (vsubr (V.sub.refl _) ((TyOk.int .i64).lt _ _)) (.c (lk 0 rfl rfl) (vsubr (V.sub.refl _) ((TyOk.int .i64).lt _ _)) (.cons (vsubr (V.sub.refl _) (lt_cptr (ty_TField.lt _ _))) (.cons (subren rfl) .nil))))) (ren_tup (renL_c rfl (renL_c ((TyOk.int .i64).cl _ _) rfl))) (mapc (ren_cells ((TyOk.int .i64).cl _ _)) (mapc (ren_buf ty_TField _) rfl)) rfl) rfl rfl) trivial ?_
            refine S.sil 118 rfl rfl (fun _ hF => .extract (lk 0 rfl rfl) rfl) ?_
            refine S.sil 119 rfl rfl (fun _ hF => .extract (lk 1 rfl rfl) rfl) ?_
            refine S.sil 6 rfl rfl (fun _ hF => .assign (lk 1 rfl rfl)) ?_
            refine S.sil 7 rfl rfl (fun _ hF => .assign (lk 1 rfl rfl)) ?_
            refine S.nil ?_
            refine thenQ_n ?_
            refine AWp.prune (.eq (lk 0 rfl rfl) rfl (.eq (lk 1 rfl rfl) rfl (.eq (lk 22 rfl rfl) rfl (.eq (lk 24 rfl rfl) rfl (.eq (lk 25 rfl rfl) rfl (.eq (lk 29 rfl rfl) rfl .nil)))))) ?_
            refine AWp.ret ?_
            refine blockQ_r ?_
            refine thenQ_r ?_
            obtain rfl := h.ret
            exact endFN rfl (Wk.selS [4] (by decide) rfl (SelE.spec (v := .slo 587 0 [] 0 0 r12.1.length 1) (lk 1 rfl rfl) rfl (.slo (by first | rfl | simp)) rfl rfl (SelE.leaf (lk 0 rfl rfl) rfl (.refl _) (fun m => ((TyOk.int .i64).lt _ _)) .nil)) (.cons (lt_buf (xs := r12.1) ty_TField) rfl ⟨rfl, RSubL.leafr ty_TField _ rfl⟩ .nil)) (.cons (.tmp (lk 0 rfl rfl) rfl) (.cons (.tmp (lk 1 rfl rfl) rfl) .nil)) rfl rfl rfl
          · skip
            refine AWp.seq ?_
            refine W.reg [0, 1] rfl ?_
            refine S.sil 121 rfl rfl (fun _ hF => .eql (lk 8 rfl rfl) cI) ?_
            refine S.sil 120 rfl rfl (fun _ hF => .assign (lk 0 rfl rfl)) ?_
            refine S.nil ?_
            refine thenQ_n ?_
            refine AWp.prune (.eq (lk 0 rfl rfl) rfl (.eq (lk 12 rfl rfl) rfl (.eq (lk 14 rfl rfl) rfl (.eq (lk 15 rfl rfl) rfl (.eq (lk 16 rfl rfl) rfl (.eq (lk 18 rfl rfl) rfl (.eq (lk 19 rfl rfl) rfl (.eq (lk 20 rfl rfl) rfl (.eq (lk 21 rfl rfl) rfl (.eq (lk 22 rfl rfl) rfl (.eq (lk 24 rfl rfl) rfl .nil))))))))))) ?_
            refine AWp.condM (lk 0 rfl rfl) h (fun c6 h => ?_) (fun c6 h => ?_)
            · skip
              refine AWp.seq ?_
              refine W.reg [0, 1, 2, 3, 4, 5, 6, 7] rfl ?_
              refine S.sil 122 rfl rfl (fun _ hF => .move (lk 6 rfl rfl)) ?_
              refine S.sil 123 rfl rfl (fun _ hF => .move (lk 3 rfl rfl)) ?_
              refine S.sil 124 rfl rfl (fun _ hF => .fieldAddrC lay51 rfl rfl (lk 11 rfl rfl) rfl (flL_c (show flen _ = 1 from rfl) (flL_c (show flen _ = 1 from rfl) (flL_c (show flen _ = 1 from rfl) flL_nil)))) ?_
              refine S.sil 125 rfl rfl (fun _ hF => .loadC sz3 ag3 (lk 0 rfl rfl) rfl rfl) ?_
              refine S.sil 126 rfl rfl (fun _ hF => .sub (lk 2 rfl rfl) (lk 0 rfl rfl)) ?_
              refine S.sil 127 rfl rfl (fun _ hF => .sub (lk 4 rfl rfl) (lk 0 rfl rfl)) ?_
              refine S.sil 128 rfl rfl (fun _ hF => .bmax cI (lk 0 rfl rfl)) ?_
              obtain ⟨v13, ev13, h⟩ := h.nam
              refine S.sil 16 rfl rfl (fun _ hF => .nv (.assign (lk 0 rfl rfl)) (congrArg (V.int .i64) ev13.symm)) ?_
              refine S.nil ?_
              refine thenQ_n ?_
              refine AWp.seq ?_
              refine W.reg [0, 1, 2, 3, 4, 5, 6, 7, 8, 9, 10, 11, 12] rfl ?_
              refine S.sil 130 rfl rfl (fun _ hF => .fieldAddrC lay51 rfl rfl (lk 17 rfl rfl) rfl (flL_c (show flen _ = 1 from rfl) (flL_c (show flen _ = 1 from rfl) flL_nil))) ?_
              refine S.sil 131 rfl rfl (fun _ hF => .loadC sz9 ag9 (lk 0 rfl rfl) rfl rfl) ?_
              refine S.qui 132 rfl rfl (fun _ => .loadP sz3 ag3 (lk 14 rfl rfl) rfl .nil (by first | rfl | omega) rfl rfl) ?_
              refine S.sil 133 rfl rfl (fun _ hF => .move (lk 3 rfl rfl)) ?_
              refine S.sil 134 rfl rfl (fun _ hF => .fieldAddrC lay51 rfl rfl (lk 21 rfl rfl) rfl (flL_c (show flen _ = 1 from rfl) (flL_c (show flen _ = 1 from rfl) (flL_c (show flen _ = 1 from rfl) flL_nil)))) ?_
              refine S.sil 135 rfl rfl (fun _ hF => .loadC sz3 ag3 (lk 0 rfl rfl) rfl rfl) ?_
              obtain ⟨r14, m14, h⟩ := h.bnd
              refine S.sil 136 rfl rfl (fun _ hF => .callQ ent99 cF (.c (lk 4 rfl rfl) (V.sub.refl _) (.c (lk 3 rfl rfl) (V.sub.refl _) (.c (lk 2 rfl rfl) (V.sub.refl _) (.c cI (V.sub.refl _) (.c (lk 0 rfl rfl) (V.sub.refl _) .nil))))) (C_plan_made m14)) ?_
              refine S.sil 129 rfl rfl (fun _ hF => .move (lk 0 rfl rfl)) ?_
              refine S.sil 137 rfl rfl (fun _ hF => .extract (lk 0 rfl rfl) rfl) ?_
              refine S.sil 138 rfl rfl (fun _ hF => .extract (lk 1 rfl rfl) rfl) ?_
              refine S.eff 17 rfl rfl (.nf (v2 := .ptr 4 [] 0) (H2 := [.dead, .dead, .dead, .cells ((V.int .i64) v7), .cells (.st [V.str (default : ByteArray), (V.int .i64) 0, (V.int .i64) 0, E_TCounter (default : TCounter), E_TLock (default : TLock), .nils])]) (.alloc zv33) rfl rfl) trivial ?_
              refine S.effN rfl rfl (.nf (H2 := [.dead, .dead, .dead, .cells ((V.int .i64) v7), .cells (E_TField r14.1)]) (.storeP sz33 (lk 0 rfl rfl) (lk 2 rfl rfl) rfl (.refl _) rfl .nil (by first | rfl | omega) .nil (ty_TField.fl r14.1) (fl_st (flL_c (show flen _ = 1 from rfl) (flL_c (show flen _ = 1 from rfl) (flL_c (show flen _ = 1 from rfl) (flL_c (ty_TCounter.fl (default : TCounter)) (flL_c (ty_TLock.fl (default : TLock)) (flL_c (show flen _ = 1 from rfl) flL_nil))))))) rfl) rfl rfl) trivial ?_
              refine S.sil 18 rfl rfl (fun _ hF => .assign (lk 1 rfl rfl)) ?_
              refine S.nil ?_
              refine thenQ_n ?_
              refine AWp.wk (Wk.freeze 4 rfl rfl (.same (lk 0 rfl rfl) (.cons (lk 1 rfl rfl) rfl (.ptr .nil (by first | rfl | omega)) (.same (lk 12 rfl rfl) (.same (lk 21 rfl rfl) (.same (lk 22 rfl rfl) (.same (lk 23 rfl rfl) (.same (lk 24 rfl rfl) (.same (lk 25 rfl rfl) (.same (lk 26 rfl rfl) (.same (lk 27 rfl rfl) (.same (lk 28 rfl rfl) (.same (lk 29 rfl rfl) (.same (lk 30 rfl rfl) .nil))))))))))))) (.refl _)) ?_
              refine AWp.seq ?_
              refine AWp.seq ?_
              refine W.reg [0, 1] rfl ?_
              refine S.sil 139 rfl rfl (fun _ hF => .move (lk 0 rfl rfl)) ?_
              refine S.sil 140 rfl rfl (fun _ hF => .neq (lk 0 rfl rfl) cI) ?_
              refine S.nil ?_
              refine thenQ_n ?_
              refine AWp.condM (lk 0 rfl rfl) h (fun c7 h => ?_) (fun c7 h => ?_)
              · skip
                refine AWp.seq ?_
                refine W.reg [0, 1, 2] rfl ?_
                refine S.sil 141 rfl rfl (fun _ hF => .move (lk 2 rfl rfl)) ?_
                refine S.sil 6 rfl rfl (fun _ hF => .assign cNs) ?_
                refine S.sil 7 rfl rfl (fun _ hF => .assign (lk 1 rfl rfl)) ?_
                refine S.nil ?_
                refine thenQ_n ?_
                refine AWp.ret ?_
                refine thenQ_r ?_
                refine blockQ_r ?_
                refine thenQ_r ?_
                refine endF_wk (Wk.nilbuf 587 (lk 1 rfl rfl)) ?_
                obtain rfl := h.ret
                exact endFN rfl (Wk.selS [5] (by decide) rfl (SelE.spec (v := .slo 587 0 [] 0 0 ([] : List TField).length 1) (lk 0 rfl rfl) rfl (.slo (by first | rfl | simp)) rfl rfl (SelE.leaf (lk 1 rfl rfl) rfl (.refl _) (fun m => ((TyOk.int .i64).lt _ _)) .nil)) (.cons rfl rfl (ASub.refl _) .nil)) (.cons (.tmp (lk 0 rfl rfl) rfl) (.cons (.tmp (lk 1 rfl rfl) rfl) .nil)) rfl rfl rfl
              · skip
                refine AWp.skip ?_
                refine thenQ_n ?_
                refine AWp.seq ?_
                refine W.reg [0, 1, 2, 3, 4, 5, 6, 7, 8, 9, 10, 11, 12, 13, 14] rfl ?_
                refine S.sil 143 rfl rfl (fun _ hF => .move (lk 5 rfl rfl)) ?_
                refine S.sil 144 rfl rfl (fun _ hF => .move (lk 11 rfl rfl)) ?_
                refine S.sil 145 rfl rfl (fun _ hF => .move (lk 6 rfl rfl)) ?_
                refine S.sil 146 rfl rfl (fun _ hF => .sub (lk 1 rfl rfl) (lk 0 rfl rfl)) ?_
                refine S.sil 147 rfl rfl (fun _ hF => .move (lk 11 rfl rfl)) ?_
                refine S.sil 148 rfl rfl (fun _ hF => .move (lk 11 rfl rfl)) ?_
                refine S.sil 149 rfl rfl (fun _ hF => .fieldAddrC lay51 rfl rfl (lk 19 rfl rfl) rfl (flL_c (show flen _ = 1 from rfl) (flL_c (show flen _ = 1 from rfl) (flL_c (show flen _ = 1 from rfl) flL_nil)))) ?_
                refine S.sil 150 rfl rfl (fun _ hF => .loadC sz3 ag3 (lk 0 rfl rfl) rfl rfl) ?_
                refine S.sil 151 rfl rfl (fun _ hF => .sub (lk 2 rfl rfl) (lk 0 rfl rfl)) ?_
                obtain ⟨r15, m15, h⟩ := h.bnd
                refine S.eff 152 rfl rfl (.nf (v2 := .tup [.slo 587 5 [] 0 0 r15.1.length 1, (V.int .i64) r15.2.1]) (H2 := [.dead, .dead, .dead, .cells ((V.int .i64) r15.2.2), .dead, .buf 587 (List.map E_TField r15.1)]) (.callH ent98 (lk 8 rfl rfl) [3] (C_plan_change_1_own m15) (by decide) (.cons (lt_cells ((TyOk.int .i64).lt _ _)) rfl (RSub.trans (.refl _) (.eq ((TyOk.int .i64).cl _ _).symm)) .nil) (ltL_c ((TyOk.int .i64).lt _ _) (ltL_c ((TyOk.int .i64).lt _ _) (ltL_c ((TyOk.int .i64).lt _ _) (ltL_c (lt_cptr (ty_TField.lt _ _)) (ltL_c rfl ltL_nil))))) (.c (lk 5 rfl rfl) (vsubr (V.sub.refl _) ((TyOk.int .i64).lt _ _)) (.c (lk 4 rfl rfl) (vsubr (V.sub.refl _) ((TyOk.int .i64).lt _ _)) (.c (lk 0 rfl rfl) (vsubr (V.sub.refl _) ((TyOk.int .i64).lt _ _)) (.cons (vsubr (V.sub.refl _) (lt_cptr (ty_TField.lt _ _))) (.cons (subren rfl) .nil))))) (ren_tup (renL_c rfl (renL_c ((TyOk.int .i64).cl _ _) rfl))) (mapc (ren_cells ((TyOk.int .i64).cl _ _)) (mapc (ren_buf ty_TField _) rfl)) rfl) rfl rfl) trivial ?_
                refine S.sil 142 rfl rfl (fun _ hF => .move (lk 0 rfl rfl)) ?_
                refine S.sil 153 rfl rfl (fun _ hF => .extract (lk 0 rfl rfl) rfl) ?_
                refine S.sil 154 rfl rfl (fun _ hF => .extract (lk 1 rfl rfl) rfl) ?_
                refine S.sil 19 rfl rfl (fun _ hF => .assign (lk 1 rfl rfl)) ?_
                refine S.sil 18 rfl rfl (fun _ hF => .assign (lk 1 rfl rfl)) ?_
                refine S.nil ?_
                refine thenQ_n ?_
                refine AWp.prune (.eq (lk 0 rfl rfl) rfl (.eq (lk 1 rfl rfl) rfl (.eq (lk 18 rfl rfl) rfl (.eq (lk 23 rfl rfl) rfl (.eq (lk 24 rfl rfl) rfl (.eq (lk 25 rfl rfl) rfl (.eq (lk 26 rfl rfl) rfl (.eq (lk 27 rfl rfl) rfl (.eq (lk 29 rfl rfl) rfl .nil))))))))) ?_
                refine AWp.seq ?_
                refine W.reg [0, 1, 2, 3, 4, 5, 6] rfl ?_
                refine S.sil 155 rfl rfl (fun _ hF => .move (lk 1 rfl rfl)) ?_
                refine S.sil 156 rfl rfl (fun _ hF => .loadC sz33 ag33 (lk 3 rfl rfl) (ty_TField.fl r14.1) rfl) ?_
                refine S.sil 157 rfl rfl (fun _ hF => .buildSliceW sli49 zv33 rfl rfl (by decide) (.cons (lk 0 rfl rfl) rfl (.refl _) (ty_TField.fl r14.1) .nil)) ?_
                obtain ⟨l16, m16, h⟩ := h.bnd
                refine S.eff 158 rfl rfl (.nf (v2 := .slo 587 6 [] 0 0 l16.length 1) (H2 := [.dead, .dead, .dead, .cells ((V.int .i64) r15.2.2), .dead, .dead, .buf 587 (List.map E_TField l16)]) (.appOwnT sli49 und49 zv33 rfl (by decide) (lk 2 rfl rfl) rfl (by first | rfl | simp) (lk 0 rfl rfl) Rd.sl m16 rfl) rfl rfl) trivial ?_
                refine S.sil 159 rfl rfl (fun _ hF => .move (lk 4 rfl rfl)) ?_
                refine S.sil 6 rfl rfl (fun _ hF => .assign (lk 1 rfl rfl)) ?_
                refine S.sil 7 rfl rfl (fun _ hF => .assign (lk 1 rfl rfl)) ?_
                refine S.nil ?_
                refine thenQ_n ?_
                refine AWp.prune (.eq (lk 0 rfl rfl) rfl (.eq (lk 1 rfl rfl) rfl (.eq (lk 10 rfl rfl) rfl (.eq (lk 11 rfl rfl) rfl (.eq (lk 12 rfl rfl) rfl (.eq (lk 15 rfl rfl) rfl .nil)))))) ?_
                refine AWp.ret ?_
                refine blockQ_r ?_
                refine thenQ_r ?_
                obtain rfl := h.ret
                exact endFN rfl (Wk.selS [6] (by decide) rfl (SelE.spec (v := .slo 587 0 [] 0 0 l16.length 1) (lk 1 rfl rfl) rfl (.slo (by first | rfl | simp)) rfl rfl (SelE.leaf (lk 0 rfl rfl) rfl (.refl _) (fun m => ((TyOk.int .i64).lt _ _)) .nil)) (.cons (lt_buf (xs := l16) ty_TField) rfl ⟨rfl, RSubL.leafr ty_TField _ rfl⟩ .nil)) (.cons (.tmp (lk 0 rfl rfl) rfl) (.cons (.tmp (lk 1 rfl rfl) rfl) .nil)) rfl rfl rfl
            · skip
              refine AWp.skip ?_
              refine blockQ_n ?_
              refine thenQ_n ?_
              refine AWp.seq ?_
              refine W.reg [0, 1, 2, 3, 4, 5, 6, 7] rfl ?_
              refine S.sil 161 rfl rfl (fun _ hF => .move (lk 6 rfl rfl)) ?_
              obtain ⟨r17, m17, h⟩ := h.bnd
              refine S.sil 162 rfl rfl (fun _ hF => .callQ ent100 cF (.c cI (V.sub.refl _) (.c (lk 0 rfl rfl) (V.sub.refl _) .nil)) (C_lock_New m17)) ?_
              refine S.sil 160 rfl rfl (fun _ hF => .move (lk 0 rfl rfl)) ?_
              refine S.sil 163 rfl rfl (fun _ hF => .extract (lk 0 rfl rfl) rfl) ?_
              refine S.sil 164 rfl rfl (fun _ hF => .extract (lk 1 rfl rfl) rfl) ?_
              refine S.eff 20 rfl rfl (.nf (v2 := .ptr 4 [] 0) (H2 := [.dead, .dead, .dead, .cells ((V.int .i64) v7), .cells (E_TLock (default : TLock))]) (.alloc zv30) rfl rfl) trivial ?_
              refine S.effN rfl rfl (.nf (H2 := [.dead, .dead, .dead, .cells ((V.int .i64) v7), .cells (E_TLock r17.1)]) (.storeP sz30 (lk 0 rfl rfl) (lk 2 rfl rfl) rfl (.refl _) rfl .nil (by first | rfl | omega) .nil (ty_TLock.fl r17.1) (ty_TLock.fl (default : TLock)) rfl) rfl rfl) trivial ?_
              refine S.sil 9 rfl rfl (fun _ hF => .assign (lk 1 rfl rfl)) ?_
              refine S.nil ?_
              refine thenQ_n ?_
              refine AWp.wk (Wk.freeze 4 rfl rfl (.same (lk 0 rfl rfl) (.cons (lk 1 rfl rfl) rfl (.ptr .nil (by first | rfl | omega)) (.same (lk 11 rfl rfl) (.same (lk 14 rfl rfl) (.same (lk 15 rfl rfl) (.same (lk 17 rfl rfl) .nil)))))) (.refl _)) ?_
              refine AWp.seq ?_
              refine AWp.seq ?_
              refine W.reg [0, 1, 2, 3, 4, 5, 6] rfl ?_
              refine S.sil 165 rfl rfl (fun _ hF => .move (lk 0 rfl rfl)) ?_
              refine S.sil 166 rfl rfl (fun _ hF => .neq (lk 0 rfl rfl) cI) ?_
              refine S.sil 167 rfl rfl (fun _ hF => .move (lk 0 rfl rfl)) ?_
              refine S.gqui 168 2 167 false rfl rfl rfl (lk 0 rfl rfl) (fun hB _ => .loadP sz3 ag3 (lk 5 rfl rfl) rfl .nil (by first | rfl | omega) rfl rfl) ?_
              obtain ⟨r18, m18, h⟩ := h.bnd
              refine S.gsil 169 2 167 false rfl rfl rfl (lk 1 rfl rfl) (fun hB _ hF => .callQ ent64 cF (.c (ifT hB (lk 0 rfl rfl)) (V.sub.refl _) .nil) (C_num_Is (gd_get m18 hB))) ?_
              refine S.gsil 170 2 167 false rfl rfl rfl (lk 2 rfl rfl) (fun hB _ hF => .not (ifT hB (lk 0 rfl rfl))) ?_
              refine S.sil 171 rfl rfl (fun _ hF => .pickOr (lk 3 rfl rfl) cB (fun h => ifT h (lk 0 rfl rfl))) ?_
              refine S.nil ?_
              refine thenQ_n ?_
              refine AWp.condM (lk 0 rfl rfl) h (fun c8 h => ?_) (fun c8 h => ?_)
              · skip
                refine AWp.seq ?_
                refine W.reg [0, 1] rfl ?_
                refine S.sil 6 rfl rfl (fun _ hF => .assign cNs) ?_
                refine S.sil 7 rfl rfl (fun _ hF => .assign cI) ?_
                refine S.nil ?_
                refine thenQ_n ?_
                refine AWp.prune (.eq (lk 0 rfl rfl) rfl (.eq (lk 1 rfl rfl) rfl (.eq (lk 10 rfl rfl) rfl (.eq (lk 11 rfl rfl) rfl (.eq (lk 14 rfl rfl) rfl .nil))))) ?_
                refine AWp.ret ?_
                refine thenQ_r ?_
                refine endF_wk (Wk.nilbuf 587 (lk 1 rfl rfl)) ?_
                obtain rfl := h.ret
                exact endFN rfl (Wk.selS [5] (by decide) rfl (SelE.spec (v := .slo 587 0 [] 0 0 ([] : List TField).length 1) (lk 0 rfl rfl) rfl (.slo (by first | rfl | simp)) rfl rfl (SelE.leaf (lk 1 rfl rfl) rfl (.refl _) (fun m => ((TyOk.int .i64).lt _ _)) .nil)) (.cons rfl rfl (ASub.refl _) .nil)) (.cons (.tmp (lk 0 rfl rfl) rfl) (.cons (.tmp (lk 1 rfl rfl) rfl) .nil)) rfl rfl rfl
              · skip
                refine AWp.skip ?_
                refine thenQ_n ?_
                refine AWp.seq ?_
                refine W.reg [0, 1, 2, 3, 4, 5, 6, 7] rfl ?_
                refine S.sil 172 rfl rfl (fun _ hF => .fieldAddrC lay33 rfl rfl (lk 12 rfl rfl) rfl flL_nil) ?_
                refine S.sil 173 rfl rfl (fun _ hF => .loadC sz9 ag9 (lk 0 rfl rfl) rfl rfl) ?_
                refine S.qui 174 rfl rfl (fun _ => .loadP sz3 ag3 (lk 11 rfl rfl) rfl .nil (by first | rfl | omega) rfl rfl) ?_
                refine S.sil 175 rfl rfl (fun _ hF => .loadC sz30 ag30 (lk 11 rfl rfl) (ty_TLock.fl r17.1) rfl) ?_
                obtain ⟨v19, ev19, h⟩ := h.nam
                refine S.sil 176 rfl rfl (fun _ hF => .nv (.vs (v := .st [V.str a1.Name, (V.int .i64) 2, (V.int .i64) v7, E_TCounter (default : TCounter), E_TLock r17.1, .nils]) (v2 := E_TField (⟨a1.Name, 2, v7, (default : TCounter), r17.1, ([] : List THold)⟩ : TField)) (.buildStW lay33 zv33 rfl (.cons (lk 2 rfl rfl) rfl rfl rfl rfl (.cons cI rfl rfl rfl rfl (.cons (lk 1 rfl rfl) rfl rfl rfl rfl (.cons (lk 0 rfl rfl) rfl rfl (ty_TLock.fl r17.1) rfl .nil))))) rfl (.st (.cons (.refl _) (.cons (.refl _) (.cons (.refl _) (.cons (.refl _) (.cons (.refl _) (.cons (.nils_no _) .nil)))))))) (congrArg E_TField ev19.symm)) ?_
                obtain ⟨v20, ev20, h⟩ := h.nam
                refine S.eff 177 rfl rfl (.nf (v2 := .slo 587 5 [] 0 0 1 1) (H2 := [.dead, .dead, .dead, .cells ((V.int .i64) v7), .dead, .buf 587 (List.map E_TField v20)]) (.buildOwn (vs := List.map E_TField [v19]) sli49 zv33 rfl rfl (by decide) (.cons (lk 0 rfl rfl) rfl (.refl _) (ty_TField.fl v19) .nil) (congrArg (fun z => ([.dead, .dead, .dead, .cells ((V.int .i64) v7), .dead, AObj.buf 587 (List.map E_TField z)] : List AObj)) ev20.symm)) rfl rfl) trivial ?_
                refine S.sil 6 rfl rfl (fun _ hF => .assign (lk 0 rfl rfl)) ?_
                refine S.sil 7 rfl rfl (fun _ hF => .assign cI) ?_
                refine S.nil ?_
                refine thenQ_n ?_
                refine AWp.prune (.eq (lk 0 rfl rfl) rfl (.eq (lk 1 rfl rfl) rfl .nil)) ?_
                refine AWp.ret ?_
                obtain rfl := h.ret
                exact endFN rfl (Wk.selS [5] (by decide) rfl (SelE.spec (v := .slo 587 0 [] 0 0 v20.length 1) (lk 1 rfl rfl) rfl (.slo (by first | rfl | simp [ev20, ev19, ev7])) rfl rfl (SelE.leaf (lk 0 rfl rfl) rfl (.refl _) (fun m => ((TyOk.int .i64).lt _ _)) .nil)) (.cons (lt_buf (xs := v20) ty_TField) rfl ⟨rfl, RSubL.leafr ty_TField _ rfl⟩ .nil)) (.cons (.tmp (lk 0 rfl rfl) rfl) (.cons (.tmp (lk 1 rfl rfl) rfl) .nil)) rfl rfl rfl
theorem C_plan_Touched {a1 : TPlan} {a2 : ByteArray} {r : Bool} (h : plan_Touched a1 a2 = some r) : PureC Pg 50 [E_TPlan a1, V.str a2] (V.bool r) := by
  refine PureC.ofF (CallSpec.of_bodyF 20 0 fn50 rfl rfl rfl (Nat.le_of_ble_eq_true rfl) ?_) (ltL_c (ty_TPlan.lt _ _) (ltL_c (TyOk.str.lt _ _) ltL_nil)) (TyOk.bool.lt _ _)
  replace h := Ok.of h
  unfold plan_Touched at h
  refine AWp.seq ?_
  refine W.reg [0, 1] rfl ?_
  refine S.eff 2 rfl rfl (.nf (v2 := .ptr 0 [] 0) (H2 := [.cells (E_TPlan a1)]) (.box (lk 0 rfl rfl) rfl) rfl rfl) trivial ?_
  refine S.sil 4 rfl rfl (fun _ hF => .assign cB) ?_
  refine S.nil ?_
  refine thenQ_n ?_
  refine AWp.wk (Wk.freeze 0 rfl rfl (.same (lk 0 rfl rfl) (.cons (lk 1 rfl rfl) rfl (.ptr .nil (by first | rfl | omega)) (.same (lk 3 rfl rfl) .nil))) (.refl _)) ?_
  refine AWp.seq ?_
  refine W.reg [0, 1, 2, 3, 4, 5, 6, 7, 8, 9, 10, 11, 12, 13, 14, 15] rfl ?_
  refine S.sil 5 rfl rfl (fun _ hF => .move (lk 2 rfl rfl)) ?_
  refine S.sil 6 rfl rfl (fun _ hF => .fieldAddrC lay51 rfl rfl (lk 2 rfl rfl) rfl (flL_c (show flen _ = 1 from rfl) flL_nil)) ?_
  refine S.sil 7 rfl rfl (fun _ hF => .loadC sz9 ag9 (lk 0 rfl rfl) rfl rfl) ?_
  refine S.sil 8 rfl rfl (fun _ hF => .eqlS (lk 2 rfl rfl) (lk 0 rfl rfl)) ?_
  refine S.sil 9 rfl rfl (fun _ hF => .move (lk 0 rfl rfl)) ?_
  refine S.gsil 10 4 9 false rfl rfl rfl (lk 0 rfl rfl) (fun hB _ hF => .fieldAddrC lay51 rfl rfl (lk 6 rfl rfl) rfl (flL_c (show flen _ = 1 from rfl) (flL_c (show flen _ = 1 from rfl) flL_nil))) ?_
  refine S.gsil 11 4 9 false rfl rfl rfl (lk 1 rfl rfl) (fun hB _ hF => .loadC sz9 ag9 (ifT hB (lk 0 rfl rfl)) rfl rfl) ?_
  refine S.gsil 12 4 9 false rfl rfl rfl (lk 2 rfl rfl) (fun hB _ hF => .neqS (ifT hB (lk 0 rfl rfl)) cS) ?_
  refine S.gsil 13 4 9 false rfl rfl rfl (lk 3 rfl rfl) (fun hB _ hF => .move (ifT hB (lk 0 rfl rfl))) ?_
  refine S.gsil2 14 8 13 true rfl rfl rfl (lk 0 rfl rfl) (fun hB _ hF => .move (lk 11 rfl rfl)) ?_
  refine S.gsil2 15 8 13 true rfl rfl rfl (lk 1 rfl rfl) (fun hB _ hF => .fieldAddrC lay51 rfl rfl (lk 11 rfl rfl) rfl (flL_c (show flen _ = 1 from rfl) (flL_c (show flen _ = 1 from rfl) flL_nil))) ?_
  refine S.gsil2 16 8 13 true rfl rfl rfl (lk 2 rfl rfl) (fun hB _ hF => .loadC sz9 ag9 (ifT hB (lk 0 rfl rfl)) rfl rfl) ?_
  refine S.gsil2 17 8 13 true rfl rfl rfl (lk 3 rfl rfl) (fun hB _ hF => .eqlS (ifT hB (lk 2 rfl rfl)) (ifT hB (lk 0 rfl rfl))) ?_
  refine S.gsil 18 4 9 false rfl rfl rfl (lk 8 rfl rfl) (fun hB _ hF => .pickAnd (ifT hB (lk 4 rfl rfl)) (fun h => ifT ⟨hB, h⟩ (lk 0 rfl rfl)) cB) ?_
  obtain ⟨v3, ev3, h⟩ := h.nam
  refine S.sil 19 rfl rfl (fun _ hF => .nv (.pickOr (lk 9 rfl rfl) cB (fun h => ifT h (lk 0 rfl rfl))) (congrArg V.bool ev3.symm)) ?_
  refine S.sil 4 rfl rfl (fun _ hF => .assign (lk 0 rfl rfl)) ?_
  refine S.nil ?_
  refine thenQ_n ?_
  refine AWp.prune (.eq (lk 0 rfl rfl) rfl .nil) ?_
  refine AWp.ret ?_
  obtain rfl := h.ret
  exact endF1 rfl (Wk.selS [] .nil rfl (SelE.leaf (lk 0 rfl rfl) rfl (.refl _) (fun m => (TyOk.bool.lt _ _)) .nil) .nil) (.tmp (lk 0 rfl rfl) rfl) rfl rfl
theorem C_plan_Apply_1 {a1 : TField} {a2 : TField} {r : Int} (h : plan_Apply_1 a1 a2 = some r) : PureC Pg 52 [E_TField a1, E_TField a2] ((V.int .i64) r) := by
  refine PureC.ofF (CallSpec.of_bodyF 10 0 fn52 rfl rfl rfl (Nat.le_of_ble_eq_true rfl) ?_) (ltL_c (ty_TField.lt _ _) (ltL_c (ty_TField.lt _ _) ltL_nil)) ((TyOk.int .i64).lt _ _)
  replace h := Ok.of h
  unfold plan_Apply_1 at h
  refine AWp.seq ?_
  refine W.reg [0, 1, 2] rfl ?_
  refine S.eff 2 rfl rfl (.nf (v2 := .ptr 0 [] 0) (H2 := [.cells (E_TField a1)]) (.box (lk 0 rfl rfl) rfl) rfl rfl) trivial ?_
  refine S.eff 3 rfl rfl (.nf (v2 := .ptr 1 [] 0) (H2 := [.cells (E_TField a1), .cells (E_TField a2)]) (.box (lk 2 rfl rfl) rfl) rfl rfl) trivial ?_
  refine S.sil 4 rfl rfl (fun _ hF => .assign cI) ?_
  refine S.nil ?_
  refine thenQ_n ?_
  refine AWp.wk (Wk.freeze 0 rfl rfl (.same (lk 0 rfl rfl) (.same (lk 1 rfl rfl) (.cons (lk 2 rfl rfl) rfl (.ptr .nil (by first | rfl | omega)) .nil))) (.refl _)) ?_
  refine AWp.wk (Wk.freeze 1 rfl rfl (.same (lk 0 rfl rfl) (.cons (lk 1 rfl rfl) rfl (.ptr .nil (by first | rfl | omega)) (.same (lk 2 rfl rfl) .nil))) (.refl _)) ?_
  refine AWp.seq ?_
  refine AWp.seq ?_
  refine W.reg [0, 1, 2, 3, 4] rfl ?_
  refine S.sil 5 rfl rfl (fun _ hF => .fieldAddrC lay33 rfl rfl (lk 2 rfl rfl) rfl flL_nil) ?_
  refine S.sil 6 rfl rfl (fun _ hF => .loadC sz9 ag9 (lk 0 rfl rfl) rfl rfl) ?_
  refine S.sil 7 rfl rfl (fun _ hF => .fieldAddrC lay33 rfl rfl (lk 3 rfl rfl) rfl flL_nil) ?_
  refine S.sil 8 rfl rfl (fun _ hF => .loadC sz9 ag9 (lk 0 rfl rfl) rfl rfl) ?_
  refine S.sil 9 rfl rfl (fun _ hF => .lssS (lk 2 rfl rfl) (lk 0 rfl rfl)) ?_
  refine S.nil ?_
  refine thenQ_n ?_
  refine AWp.condM (lk 0 rfl rfl) h (fun c1 h => ?_) (fun c1 h => ?_)
  · skip
    refine AWp.seq ?_
    refine W.reg [0] rfl ?_
    refine S.sil 4 rfl rfl (fun _ hF => .assign cI) ?_
    refine S.nil ?_
    refine thenQ_n ?_
    refine AWp.ret ?_
    refine thenQ_r ?_
    obtain rfl := h.ret
    exact endF1 rfl (Wk.selS [] .nil rfl (SelE.leaf (lk 0 rfl rfl) rfl (.refl _) (fun m => ((TyOk.int .i64).lt _ _)) .nil) .nil) (.tmp (lk 0 rfl rfl) rfl) rfl rfl
  · skip
    refine AWp.skip ?_
    refine thenQ_n ?_
    refine AWp.seq ?_
    refine W.reg [0] rfl ?_
    refine S.sil 4 rfl rfl (fun _ hF => .assign cI) ?_
    refine S.nil ?_
    refine thenQ_n ?_
    refine AWp.ret ?_
    obtain rfl := h.ret
    exact endF1 rfl (Wk.selS [] .nil rfl (SelE.leaf (lk 0 rfl rfl) rfl (.refl _) (fun m => ((TyOk.int .i64).lt _ _)) .nil) .nil) (.tmp (lk 0 rfl rfl) rfl) rfl rfl
end Go.Av
namespace Go.Proofs
open Go.Shelf in
def Try.sort51_ren : Go.Shelf.Ren := ⟨fun | 6 => 51 | 15 => 102 | 14 => 101 | 28 => 145 | 29 => 146 | 20 => 137 | 21 => 138 | 22 => 139 | 23 => 140 | 24 => 141 | 25 => 142 | 26 => 143 | 27 => 144 | 46 => 168 | 47 => 169 | 48 => 170 | 49 => 171 | 50 => 172 | 57 => 183 | n => n, fun | 22 => 49 | 24 => 33 | 25 => 90 | 3 => 3 | 39 => 130 | 0 => 0 | 53 => 164 | 55 => 166 | 4 => 4 | 46 => 158 | 45 => 157 | 50 => 85 | 5 => 5 | 9 => 9 | 66 => 181 | 70 => 185 | 76 => 193 | 77 => 145 | n => n, fun | n => n⟩
open Go.Shelf in
theorem Try.sort51 : Go.Proofs.SlLaysF0.n6 Try.prog Try.sort51_ren := {
  mixed := by kernel_rfl
  f6 := ⟨Try.f51.name, by decide, Try.func51.trans (congrArg some (by kernel_rfl))⟩
  f14 := ⟨Try.f101.name, by decide, Try.func101.trans (congrArg some (by kernel_rfl))⟩
  f15 := Try.func102.trans (congrArg some (by kernel_rfl))
  f20 := ⟨Try.f137.name, by decide, Try.func137.trans (congrArg some (by kernel_rfl))⟩
  f21 := ⟨Try.f138.name, by decide, Try.func138.trans (congrArg some (by kernel_rfl))⟩
  f22 := ⟨Try.f139.name, by decide, Try.func139.trans (congrArg some (by kernel_rfl))⟩
  f23 := ⟨Try.f140.name, by decide, Try.func140.trans (congrArg some (by kernel_rfl))⟩
  f24 := ⟨Try.f141.name, by decide, Try.func141.trans (congrArg some (by kernel_rfl))⟩
  f25 := ⟨Try.f142.name, by decide, Try.func142.trans (congrArg some (by kernel_rfl))⟩
  f26 := ⟨Try.f143.name, by decide, Try.func143.trans (congrArg some (by kernel_rfl))⟩
  f27 := ⟨Try.f144.name, by decide, Try.func144.trans (congrArg some (by kernel_rfl))⟩
  f28 := Try.func145.trans (congrArg some (by kernel_rfl))
  f29 := Try.func146.trans (congrArg some (by kernel_rfl))
  f46 := ⟨Try.f168.name, by decide, Try.func168.trans (congrArg some (by kernel_rfl))⟩
  f47 := Try.func169.trans (congrArg some (by kernel_rfl))
  f48 := Try.func170.trans (congrArg some (by kernel_rfl))
  f49 := ⟨Try.f171.name, by decide, Try.func171.trans (congrArg some (by kernel_rfl))⟩
  f50 := ⟨Try.f172.name, by decide, Try.func172.trans (congrArg some (by kernel_rfl))⟩
  f57 := ⟨Try.f183.name, by decide, Try.func183.trans (congrArg some (by kernel_rfl))⟩
  t0 := Try.underlying0
  a0 := Try.isAgg0
  z0 := Try.sizeOf0
  v0 := Try.zeroValue0
  t3 := Try.underlying3
  a3 := Try.isAgg3
  z3 := Try.sizeOf3
  v3 := Try.zeroValue3
  t4 := Try.underlying4
  a4 := Try.isAgg4
  z4 := Try.sizeOf4
  v4 := Try.zeroValue4
  t5 := Try.underlying5
  a5 := Try.isAgg5
  z5 := Try.sizeOf5
  v5 := Try.zeroValue5
  t9 := Try.underlying9
  a9 := Try.isAgg9
  z9 := Try.sizeOf9
  v9 := Try.zeroValue9
  t22 := Try.underlying49
  a22 := Try.isAgg49
  z22 := Try.sizeOf49
  v22 := Try.zeroValue49
  t25 := Try.underlying90
  a25 := Try.isAgg90
  z25 := Try.sizeOf90
  v25 := Try.zeroValue90
  t39 := Try.underlying130
  a39 := Try.isAgg130
  z39 := Try.sizeOf130
  v39 := Try.zeroValue130
  t45 := Try.underlying157
  a45 := Try.isAgg157
  z45 := Try.sizeOf157
  v45 := Try.zeroValue157
  t46 := Try.underlying158
  a46 := Try.isAgg158
  z46 := Try.sizeOf158
  v46 := Try.zeroValue158
  t50 := Try.underlying85
  a50 := Try.isAgg85
  z50 := Try.sizeOf85
  v50 := Try.zeroValue85
  t53 := Try.underlying164
  a53 := Try.isAgg164
  z53 := Try.sizeOf164
  v53 := Try.zeroValue164
  t55 := Try.underlying166
  a55 := Try.isAgg166
  z55 := Try.sizeOf166
  v55 := Try.zeroValue166
  t66 := Try.underlying181
  a66 := Try.isAgg181
  z66 := Try.sizeOf181
  v66 := Try.zeroValue181
  t70 := Try.underlying185
  a70 := Try.isAgg185
  z70 := Try.sizeOf185
  v70 := Try.zeroValue185
  t76 := Try.underlying193
  a76 := Try.isAgg193
  z76 := Try.sizeOf193
  v76 := Try.zeroValue193
  t77 := Try.underlying145
  a77 := Try.isAgg145
  z77 := Try.sizeOf145
  v77 := Try.zeroValue145 }
end Go.Proofs
namespace Go.Av
open Go.Proofs
theorem srt51 : Go.Proofs.SlLaysF0.n6 Pg Go.Proofs.Try.sort51_ren := by rw [Pg_eq]; exact Go.Proofs.Try.sort51
theorem C_plan_Apply {a1 : List TField} {a2 : TPlan} {r : (List TField) × Int} (h : plan_Apply a1 a2 = some r) : PureC Pg 22 [.sl 587 .no (List.map E_TField a1), E_TPlan a2] (.tup [E_S_TField r.1, (V.int .i64) r.2]) := by
  refine PureC.ofF (CallSpec.of_bodyF 77 0 fn22 rfl rfl rfl (Nat.le_of_ble_eq_true rfl) ?_) (ltL_c (lt_sl rfl (ty_TField.ltm _ _)) (ltL_c (ty_TPlan.lt _ _) ltL_nil)) (lt_tup (ltL_c (ty_S_TField.lt _ _) (ltL_c ((TyOk.int .i64).lt _ _) ltL_nil)))
  replace h := Ok.of h
  unfold plan_Apply at h
  refine AWp.seq ?_
  refine W.reg [0, 1, 2] rfl ?_
  refine S.eff 3 rfl rfl (.nf (v2 := .ptr 0 [] 0) (H2 := [.cells (E_TPlan a2)]) (.box (lk 1 rfl rfl) rfl) rfl rfl) trivial ?_
  refine S.sil 4 rfl rfl (fun _ hF => .assign cNs) ?_
  refine S.sil 5 rfl rfl (fun _ hF => .assign cI) ?_
  refine S.nil ?_
  refine thenQ_n ?_
  refine AWp.wk (Wk.freeze 0 rfl rfl (.same (lk 0 rfl rfl) (.same (lk 1 rfl rfl) (.cons (lk 2 rfl rfl) rfl (.ptr .nil (by first | rfl | omega)) (.same (lk 3 rfl rfl) .nil)))) (.refl _)) ?_
  refine AWp.seq ?_
  refine AWp.seq ?_
  refine W.reg [0, 1, 2, 3] rfl ?_
  refine S.sil 16 rfl rfl (fun _ hF => .move (lk 3 rfl rfl)) ?_
  refine S.sil 17 rfl rfl (fun _ hF => .loadC sz51 ag51 (lk 3 rfl rfl) (ty_TPlan.fl a2) rfl) ?_
  obtain ⟨r3, m3, h⟩ := h.bnd
  refine S.sil 18 rfl rfl (fun _ hF => .callQ ent47 cF (.c (lk 1 rfl rfl) (V.sub.refl _) (.c (lk 0 rfl rfl) (V.sub.refl _) .nil)) (C_plan_Fits m3)) ?_
  refine S.sil 6 rfl rfl (fun _ hF => .assign (lk 0 rfl rfl)) ?_
  refine S.nil ?_
  refine thenQ_n ?_
  refine AWp.seq ?_
  refine W.reg [0, 1] rfl ?_
  refine S.sil 19 rfl rfl (fun _ hF => .move (lk 0 rfl rfl)) ?_
  refine S.sil 20 rfl rfl (fun _ hF => .neq (lk 0 rfl rfl) cI) ?_
  refine S.nil ?_
  refine thenQ_n ?_
  refine AWp.condM (lk 0 rfl rfl) h (fun c1 h => ?_) (fun c1 h => ?_)
  · skip
    refine AWp.seq ?_
    refine W.reg [0, 1, 2] rfl ?_
    refine S.sil 21 rfl rfl (fun _ hF => .move (lk 2 rfl rfl)) ?_
    refine S.sil 4 rfl rfl (fun _ hF => .assign cNs) ?_
    refine S.sil 5 rfl rfl (fun _ hF => .assign (lk 1 rfl rfl)) ?_
    refine S.nil ?_
    refine thenQ_n ?_
    refine AWp.ret ?_
    refine thenQ_r ?_
    obtain rfl := h.ret
    exact endFN rfl (Wk.selS [] .nil rfl (SelE.leaf (lk 1 rfl rfl) rfl (.nils_no _) (fun m => (ty_S_TField.lt ([] : List TField) _)) (SelE.leaf (lk 0 rfl rfl) rfl (.refl _) (fun m => ((TyOk.int .i64).lt _ _)) .nil)) .nil) (.cons (.tmp (lk 0 rfl rfl) rfl) (.cons (.tmp (lk 1 rfl rfl) rfl) .nil)) rfl rfl rfl
  · skip
    refine AWp.skip ?_
    refine thenQ_n ?_
    refine AWp.seq ?_
    refine W.reg [0, 1, 2, 3, 4, 5, 6, 7, 8] rfl ?_
    refine S.sil 23 rfl rfl (fun _ hF => .move (lk 9 rfl rfl)) ?_
    refine S.sil 24 rfl rfl (fun _ hF => .fieldAddrC lay51 rfl rfl (lk 9 rfl rfl) rfl (flL_c (show flen _ = 1 from rfl) flL_nil)) ?_
    refine S.sil 25 rfl rfl (fun _ hF => .loadC sz9 ag9 (lk 0 rfl rfl) rfl rfl) ?_
    obtain ⟨r4, m4, h⟩ := h.bnd
    refine S.sil 26 rfl rfl (fun _ hF => .callQ ent48 cF (.c (lk 2 rfl rfl) (V.sub.refl _) (.c (lk 0 rfl rfl) (V.sub.refl _) .nil)) (C_plan_Find m4)) ?_
    refine S.sil 22 rfl rfl (fun _ hF => .move (lk 0 rfl rfl)) ?_
    refine S.sil 27 rfl rfl (fun _ hF => .extract (lk 0 rfl rfl) rfl) ?_
    refine S.sil 28 rfl rfl (fun _ hF => .extract (lk 1 rfl rfl) rfl) ?_
    refine S.sil 7 rfl rfl (fun _ hF => .assign (lk 1 rfl rfl)) ?_
    refine S.sil 8 rfl rfl (fun _ hF => .assign (lk 1 rfl rfl)) ?_
    refine S.nil ?_
    refine thenQ_n ?_
    refine AWp.prune (.eq (lk 1 rfl rfl) rfl (.eq (lk 15 rfl rfl) rfl (.eq (lk 16 rfl rfl) rfl (.eq (lk 17 rfl rfl) rfl (.eq (lk 18 rfl rfl) rfl .nil))))) ?_
    refine AWp.seq ?_
    refine W.reg [0] rfl ?_
    refine S.eff 9 rfl rfl (.nf (v2 := .ptr 1 [] 0) (H2 := [.dead, .cells (.st [V.str (default : ByteArray), (V.int .i64) 0, (V.int .i64) 0, E_TCounter (default : TCounter), E_TLock (default : TLock), .nils])]) (.alloc zv33) rfl rfl) trivial ?_
    refine S.nil ?_
    refine thenQ_n ?_
    refine AWp.seq ?_
    refine AWp.seq ?_
    refine W.reg [0, 1, 2, 3, 4, 5, 6, 7, 8] rfl ?_
    refine S.sil 30 rfl rfl (fun _ hF => .move (lk 5 rfl rfl)) ?_
    refine S.sil 31 rfl rfl (fun _ hF => .fieldAddrC lay51 rfl rfl (lk 5 rfl rfl) rfl (flL_c (show flen _ = 1 from rfl) (flL_c (show flen _ = 1 from rfl) flL_nil))) ?_
    refine S.sil 32 rfl rfl (fun _ hF => .loadC sz9 ag9 (lk 0 rfl rfl) rfl rfl) ?_
    obtain ⟨r5, m5, h⟩ := h.bnd
    refine S.sil 33 rfl rfl (fun _ hF => .callQ ent48 cF (.c (lk 2 rfl rfl) (V.sub.refl _) (.c (lk 0 rfl rfl) (V.sub.refl _) .nil)) (C_plan_Find m5)) ?_
    refine S.sil 29 rfl rfl (fun _ hF => .move (lk 0 rfl rfl)) ?_
    refine S.sil 34 rfl rfl (fun _ hF => .extract (lk 0 rfl rfl) rfl) ?_
    refine S.sil 35 rfl rfl (fun _ hF => .extract (lk 1 rfl rfl) rfl) ?_
    refine S.sil 10 rfl rfl (fun _ hF => .assign (lk 1 rfl rfl)) ?_
    refine S.sil 11 rfl rfl (fun _ hF => .assign (lk 1 rfl rfl)) ?_
    refine S.nil ?_
    refine thenQ_n ?_
    refine AWp.seq ?_
    refine W.reg [0] rfl ?_
    refine S.sil 36 rfl rfl (fun _ hF => .move (lk 0 rfl rfl)) ?_
    refine S.nil ?_
    refine thenQ_n ?_
    refine AWp.condM (lk 0 rfl rfl) h (fun c2 h => ?_) (fun c2 h => ?_)
    · skip
      refine W.reg [0, 1, 2, 3, 4] rfl ?_
      refine S.sil 37 rfl rfl (fun _ hF => .move (lk 15 rfl rfl)) ?_
      refine S.sil 38 rfl rfl (fun _ hF => .move (lk 3 rfl rfl)) ?_
      obtain ⟨j6, m6, h⟩ := h.bnd
      refine S.sil 39 rfl rfl (fun _ hF => .ixS sli49 (lk 1 rfl rfl) (lk 0 rfl rfl) m6) ?_
      obtain ⟨v7, ev7, h⟩ := h.nam
      refine S.sil 40 rfl rfl (fun _ hF => .nv (.loadC sz33 ag33 (lk 0 rfl rfl) (ty_TField.fl (a1.getD j6 default)) rfl) (congrArg E_TField ev7.symm)) ?_
      refine S.effN rfl rfl (.nf (H2 := [.dead, .cells (E_TField v7)]) (.storeP sz33 (lk 14 rfl rfl) (lk 0 rfl rfl) rfl (.refl _) rfl .nil (by first | rfl | omega) .nil (ty_TField.fl v7) (fl_st (flL_c (show flen _ = 1 from rfl) (flL_c (show flen _ = 1 from rfl) (flL_c (show flen _ = 1 from rfl) (flL_c (ty_TCounter.fl (default : TCounter)) (flL_c (ty_TLock.fl (default : TLock)) (flL_c (show flen _ = 1 from rfl) flL_nil))))))) rfl) rfl rfl) trivial ?_
      refine S.nil ?_
      refine thenQ_n ?_
      refine AWp.prune (.eq (lk 14 rfl rfl) rfl (.eq (lk 15 rfl rfl) rfl (.eq (lk 16 rfl rfl) rfl (.eq (lk 17 rfl rfl) rfl (.eq (lk 18 rfl rfl) rfl (.eq (lk 19 rfl rfl) rfl .nil)))))) ?_
      refine AWp.seq ?_
      refine W.regD [0, 1, 2, 3, 4, 5, 6, 7, 8, 9, 10, 11] mixed ?_
      refine S.sil 42 rfl rfl (fun _ hF => .move (lk 5 rfl rfl)) ?_
      refine S.sil 43 rfl rfl (fun _ hF => .move (lk 2 rfl rfl)) ?_
      obtain ⟨j8, m8, h⟩ := h.bnd
      refine S.sil 44 rfl rfl (fun _ hF => .ixS sli49 (lk 1 rfl rfl) (lk 0 rfl rfl) m8) ?_
      obtain ⟨v9, ev9, h⟩ := h.nam
      refine S.sil 45 rfl rfl (fun _ hF => .nv (.loadC sz33 ag33 (lk 0 rfl rfl) (ty_TField.fl (a1.getD j8 default)) rfl) (congrArg E_TField ev9.symm)) ?_
      refine S.qui 46 rfl rfl (fun _ => .loadP sz33 ag33 (lk 4 rfl rfl) rfl .nil (by first | rfl | omega) (ty_TField.fl v7) rfl) ?_
      refine S.sil 47 rfl rfl (fun _ hF => .loadC sz51 ag51 (lk 9 rfl rfl) (ty_TPlan.fl a2) rfl) ?_
      obtain ⟨r10, m10, h⟩ := h.bnd
      refine S.new 48 rfl rfl (.callN ent49 cF [] (C_plan_change_own m10) .nil .nil (ltL_c (ty_TField.lt _ _) (ltL_c (ty_TField.lt _ _) (ltL_c (ty_TPlan.lt _ _) ltL_nil))) (.c (lk 2 rfl rfl) (vsubr (V.sub.refl _) (ty_TField.lt _ 0)) (.c (lk 1 rfl rfl) (vsubr (V.sub.refl _) (ty_TField.lt _ 0)) (.c (lk 0 rfl rfl) (vsubr (V.sub.refl _) (ty_TPlan.lt _ 0)) .nil))) (ren_tup (renL_c rfl (renL_c ((TyOk.int .i64).cl _ _) rfl))) (mapc (ren_buf ty_TField _) rfl) rfl) trivial ?_
      refine S.sil 41 rfl rfl (fun _ hF => .move (lk 0 rfl rfl)) ?_
      refine S.sil 49 rfl rfl (fun _ hF => .extract (lk 0 rfl rfl) rfl) ?_
      refine S.sil 50 rfl rfl (fun _ hF => .extract (lk 1 rfl rfl) rfl) ?_
      refine S.sil 12 rfl rfl (fun _ hF => .assign (lk 1 rfl rfl)) ?_
      refine S.sil 13 rfl rfl (fun _ hF => .assign (lk 1 rfl rfl)) ?_
      refine S.nilD (by kernel_rfl) ?_
      refine thenQ_n ?_
      refine AWp.prune (.eq (lk 0 rfl rfl) rfl (.eq (lk 1 rfl rfl) rfl (.eq (lk 14 rfl rfl) rfl (.eq (lk 15 rfl rfl) rfl (.eq (lk 16 rfl rfl) rfl (.eq (lk 17 rfl rfl) rfl .nil)))))) ?_
      refine AWp.seq ?_
      refine AWp.seq ?_
      refine W.reg [0, 1] rfl ?_
      refine S.sil 51 rfl rfl (fun _ hF => .move (lk 0 rfl rfl)) ?_
      refine S.sil 52 rfl rfl (fun _ hF => .neq (lk 0 rfl rfl) cI) ?_
      refine S.nil ?_
      refine thenQ_n ?_
      refine AWp.condM (lk 0 rfl rfl) h (fun c3 h => ?_) (fun c3 h => ?_)
      · skip
        refine AWp.seq ?_
        refine W.reg [0, 1, 2] rfl ?_
        refine S.sil 53 rfl rfl (fun _ hF => .move (lk 2 rfl rfl)) ?_
        refine S.sil 4 rfl rfl (fun _ hF => .assign cNs) ?_
        refine S.sil 5 rfl rfl (fun _ hF => .assign (lk 1 rfl rfl)) ?_
        refine S.nil ?_
        refine thenQ_n ?_
        refine AWp.ret ?_
        refine thenQ_r ?_
        obtain rfl := h.ret
        exact endFN rfl (Wk.selS [] .nil rfl (SelE.leaf (lk 1 rfl rfl) rfl (.nils_no _) (fun m => (ty_S_TField.lt ([] : List TField) _)) (SelE.leaf (lk 0 rfl rfl) rfl (.refl _) (fun m => ((TyOk.int .i64).lt _ _)) .nil)) .nil) (.cons (.tmp (lk 0 rfl rfl) rfl) (.cons (.tmp (lk 1 rfl rfl) rfl) .nil)) rfl rfl rfl
      · skip
        refine AWp.skip ?_
        refine thenQ_n ?_
        refine AWp.seq ?_
        refine AWp.seq ?_
        refine W.reg [0, 1, 2] rfl ?_
        refine S.sil 54 rfl rfl (fun _ hF => .move (lk 7 rfl rfl)) ?_
        refine S.sil 55 rfl rfl (fun _ hF => .lenT sli49 (lk 0 rfl rfl) (vsub rfl (.refl _))) ?_
        refine S.sil 56 rfl rfl (fun _ hF => .move cI) ?_
        refine S.nil ?_
        refine thenQ_n ?_
        refine AWp.cutX (fun x13 => ⟨[(12, .slo 587 0 [] 0 0 x13.length 1), (5, (V.int .i64) 0), (4, .nils)], [.buf 587 (List.map E_TField x13)]⟩) nc_then h (fun q11 hq11 => ?_) (fun x13 h => ?_)
        · refine AWp.block ?_
          refine AWp.loopT (fun s12 => ⟨[(56, (V.int .i64) s12.1), (55, (V.int .i64) (a1.length : Int)), (54, .sl 587 .no (List.map E_TField a1)), (12, .slo 587 0 [] 0 0 s12.2.length 1), (5, (V.int .i64) 0), (4, .nils), (3, .cptr (E_TPlan a2))], [.buf 587 (List.map E_TField s12.2)]⟩) hq11 (Wk.selS [2] (by decide) rfl (SelE.leaf (lk 0 rfl rfl) rfl (.refl _) (fun m => ((TyOk.int .i64).lt _ _)) (SelE.leaf (lk 1 rfl rfl) rfl (.refl _) (fun m => ((TyOk.int .i64).lt _ _)) (SelE.leaf (lk 2 rfl rfl) rfl (.refl _) (fun m => (lt_sl rfl (ty_TField.ltm _ _))) (SelE.spec (lk 6 rfl rfl) rfl (.slo (by first | rfl | simp)) rfl rfl (SelE.leaf (lk 7 rfl rfl) rfl (.refl _) (fun m => ((TyOk.int .i64).lt _ _)) (SelE.leaf (lk 8 rfl rfl) rfl (.refl _) (fun m => rfl) (SelE.leaf (lk 9 rfl rfl) rfl (.refl _) (fun m => (lt_cptr (ty_TPlan.lt _ _))) .nil))))))) (.cons (lt_buf ty_TField) rfl ⟨rfl, RSubL.leafr ty_TField _ rfl⟩ .nil)) (fun _ s12 h11 => ?_)
          rw [plan_Apply_L1] at h11
          refine AWp.seq ?_
          refine W.reg [0] rfl ?_
          refine S.sil 57 rfl rfl (fun _ hF => .lss (lk 0 rfl rfl) (lk 1 rfl rfl)) ?_
          refine S.nil ?_
          refine thenQ_n ?_
          refine AWp.seq ?_
          refine AWp.condM (lk 0 rfl rfl) h11 (fun c4 h11 => ?_) (fun c4 h11 => ?_)
          · skip
            refine AWp.skip ?_
            refine thenQ_n ?_
            refine AWp.seq ?_
            refine AWp.block ?_
            refine AWp.seq ?_
            refine W.reg [0, 1, 2, 3] rfl ?_
            obtain ⟨j14, m14, h11⟩ := h11.bnd
            refine S.sil 58 rfl rfl (fun _ hF => .ixS sli49 (lk 3 rfl rfl) (lk 1 rfl rfl) m14) ?_
            obtain ⟨v15, ev15, h11⟩ := h11.nam
            refine S.sil 59 rfl rfl (fun _ hF => .nv (.loadC sz33 ag33 (lk 0 rfl rfl) (ty_TField.fl (a1.getD j14 default)) rfl) (congrArg E_TField ev15.symm)) ?_
            refine S.eff 15 rfl rfl (.nf (v2 := .ptr 1 [] 0) (H2 := [.buf 587 (List.map E_TField s12.2), .cells (.st [V.str (default : ByteArray), (V.int .i64) 0, (V.int .i64) 0, E_TCounter (default : TCounter), E_TLock (default : TLock), .nils])]) (.alloc zv33) rfl rfl) trivial ?_
            refine S.effN rfl rfl (.nf (H2 := [.buf 587 (List.map E_TField s12.2), .cells (E_TField v15)]) (.storeP sz33 (lk 0 rfl rfl) (lk 1 rfl rfl) rfl (.refl _) rfl .nil (by first | rfl | omega) .nil (ty_TField.fl v15) (fl_st (flL_c (show flen _ = 1 from rfl) (flL_c (show flen _ = 1 from rfl) (flL_c (show flen _ = 1 from rfl) (flL_c (ty_TCounter.fl (default : TCounter)) (flL_c (ty_TLock.fl (default : TLock)) (flL_c (show flen _ = 1 from rfl) flL_nil))))))) rfl) rfl rfl) trivial ?_
            refine S.nil ?_
            refine thenQ_n ?_
            refine AWp.seq ?_
            refine W.reg [0, 1, 2, 3, 4] rfl ?_
            refine S.sil 60 rfl rfl (fun _ hF => .loadC sz51 ag51 (lk 10 rfl rfl) (ty_TPlan.fl a2) rfl) ?_
            refine S.sil 61 rfl rfl (fun _ hF => .fieldAddr lay33 rfl rfl (lk 1 rfl rfl)) ?_
            refine S.qui 62 rfl rfl (fun _ => .loadP sz9 ag9 (lk 0 rfl rfl) rfl (.st rfl flL_nil .nil) (by first | rfl | omega) rfl rfl) ?_
            obtain ⟨r16, m16, h11⟩ := h11.bnd
            refine S.sil 63 rfl rfl (fun _ hF => .callQ ent50 cF (.c (lk 2 rfl rfl) (V.sub.refl _) (.c (lk 0 rfl rfl) (V.sub.refl _) .nil)) (C_plan_Touched m16)) ?_
            refine S.sil 64 rfl rfl (fun _ hF => .not (lk 0 rfl rfl)) ?_
            refine S.nil ?_
            refine thenQ_n ?_
            refine AWp.condM (lk 0 rfl rfl) h11 (fun c5 h11 => ?_) (fun c5 h11 => ?_)
            · skip
              refine AWp.seq ?_
              refine W.reg [0, 1, 2, 3, 4] rfl ?_
              refine S.sil 65 rfl rfl (fun _ hF => .fieldAddr lay33 rfl rfl (lk 5 rfl rfl)) ?_
              refine S.qui 66 rfl rfl (fun _ => .loadP sz31 ag31 (lk 0 rfl rfl) rfl (.st rfl (flL_c (show flen _ = 1 from rfl) (flL_c (show flen _ = 1 from rfl) (flL_c (show flen _ = 1 from rfl) (flL_c (ty_TCounter.fl v15.Counter) (flL_c (ty_TLock.fl v15.Lock) flL_nil))))) .nil) (by first | rfl | omega) rfl rfl) ?_
              obtain ⟨r17, m17, h11⟩ := h11.bnd
              refine S.sil 67 rfl rfl (fun _ hF => .callQ ent38 cF (.c (lk 0 rfl rfl) (V.sub.refl _) .nil) (C_clone_38 m17)) ?_
              refine S.sil 68 rfl rfl (fun _ hF => .fieldAddr lay33 rfl rfl (lk 8 rfl rfl)) ?_
              obtain ⟨v18, ev18, h11⟩ := h11.nam
              refine S.effN rfl rfl (.nf (H2 := [.buf 587 (List.map E_TField s12.2), .cells (E_TField v18)]) (.storeP sz31 (lk 0 rfl rfl) (lk 1 rfl rfl) rfl (.refl _) rfl (.st rfl (flL_c (show flen _ = 1 from rfl) (flL_c (show flen _ = 1 from rfl) (flL_c (show flen _ = 1 from rfl) (flL_c (ty_TCounter.fl v15.Counter) (flL_c (ty_TLock.fl v15.Lock) flL_nil))))) .nil) (by first | rfl | omega) (.st rfl .nil rfl) rfl rfl (congrArg (fun z => ([.buf 587 (List.map E_TField s12.2), AObj.cells (E_TField z)] : List AObj)) ev18.symm)) rfl rfl) trivial ?_
              refine S.nil ?_
              refine thenQ_n ?_
              refine W.reg [0, 1, 2, 3, 4] rfl ?_
              refine S.sil 69 rfl rfl (fun _ hF => .move (lk 16 rfl rfl)) ?_
              refine S.qui 70 rfl rfl (fun _ => .loadP sz33 ag33 (lk 10 rfl rfl) rfl .nil (by first | rfl | omega) (ty_TField.fl v18) rfl) ?_
              refine S.sil 71 rfl rfl (fun _ hF => .buildSliceW sli49 zv33 rfl rfl (by decide) (.cons (lk 0 rfl rfl) rfl (.refl _) (ty_TField.fl v18) .nil)) ?_
              obtain ⟨l19, m19, h11⟩ := h11.bnd
              refine S.eff 72 rfl rfl (.nf (v2 := .slo 587 2 [] 0 0 l19.length 1) (H2 := [.dead, .cells (E_TField v18), .buf 587 (List.map E_TField l19)]) (.appOwnT sli49 und49 zv33 rfl (by decide) (lk 2 rfl rfl) rfl (by first | rfl | simp) (lk 0 rfl rfl) Rd.sl m19 rfl) rfl rfl) trivial ?_
              refine S.sil 12 rfl rfl (fun _ hF => .assign (lk 0 rfl rfl)) ?_
              refine S.nil ?_
              refine blockQ_n ?_
              refine thenQ_n ?_
              refine W.reg [0, 1] rfl ?_
              refine S.sil 73 rfl rfl (fun _ hF => .add (lk 18 rfl rfl) cI) ?_
              refine S.sil 56 rfl rfl (fun _ hF => .move (lk 0 rfl rfl)) ?_
              refine S.nil ?_
              refine thenQ_n ?_
              exact ⟨_, h11.ret, (Wk.selS [2] (by decide) rfl (SelE.leaf (lk 0 rfl rfl) rfl (.refl _) (fun m => ((TyOk.int .i64).lt _ _)) (SelE.leaf (lk 21 rfl rfl) rfl (.refl _) (fun m => ((TyOk.int .i64).lt _ _)) (SelE.leaf (lk 22 rfl rfl) rfl (.refl _) (fun m => (lt_sl rfl (ty_TField.ltm _ _))) (SelE.spec (lk 2 rfl rfl) rfl (.slo (by first | rfl | simp)) rfl rfl (SelE.leaf (lk 24 rfl rfl) rfl (.refl _) (fun m => ((TyOk.int .i64).lt _ _)) (SelE.leaf (lk 25 rfl rfl) rfl (.refl _) (fun m => rfl) (SelE.leaf (lk 26 rfl rfl) rfl (.refl _) (fun m => (lt_cptr (ty_TPlan.lt _ _))) .nil))))))) (.cons (lt_buf ty_TField) rfl ⟨rfl, RSubL.leafr ty_TField _ rfl⟩ .nil))⟩
            · skip
              refine AWp.skip ?_
              refine blockQ_n ?_
              refine thenQ_n ?_
              refine W.reg [0, 1] rfl ?_
              refine S.sil 73 rfl rfl (fun _ hF => .add (lk 9 rfl rfl) cI) ?_
              refine S.sil 56 rfl rfl (fun _ hF => .move (lk 0 rfl rfl)) ?_
              refine S.nil ?_
              refine thenQ_n ?_
              exact ⟨_, h11.ret, (Wk.selS [0] (by decide) rfl (SelE.leaf (lk 0 rfl rfl) rfl (.refl _) (fun m => ((TyOk.int .i64).lt _ _)) (SelE.leaf (lk 12 rfl rfl) rfl (.refl _) (fun m => ((TyOk.int .i64).lt _ _)) (SelE.leaf (lk 13 rfl rfl) rfl (.refl _) (fun m => (lt_sl rfl (ty_TField.ltm _ _))) (SelE.spec (lk 14 rfl rfl) rfl (.slo (by first | rfl | simp)) rfl rfl (SelE.leaf (lk 15 rfl rfl) rfl (.refl _) (fun m => ((TyOk.int .i64).lt _ _)) (SelE.leaf (lk 16 rfl rfl) rfl (.refl _) (fun m => rfl) (SelE.leaf (lk 17 rfl rfl) rfl (.refl _) (fun m => (lt_cptr (ty_TPlan.lt _ _))) .nil))))))) (.cons (lt_buf ty_TField) rfl ⟨rfl, RSubL.leafr ty_TField _ rfl⟩ .nil))⟩
          · skip
            refine AWp.exit ?_
            refine thenQ_x ?_
            refine thenQ_x ?_
            refine blockQ_x ?_
            refine thenQ_n ?_
            exact ⟨_, h11.ret, (Wk.selS [0] (by decide) rfl (SelE.spec (lk 4 rfl rfl) rfl (.slo (by first | rfl | simp)) rfl rfl (SelE.leaf (lk 5 rfl rfl) rfl (.refl _) (fun m => ((TyOk.int .i64).lt _ _)) (SelE.leaf (lk 6 rfl rfl) rfl (.refl _) (fun m => rfl) .nil))) (.cons (lt_buf ty_TField) rfl ⟨rfl, RSubL.leafr ty_TField _ rfl⟩ .nil))⟩
        · skip
          refine thenQ_n ?_
          refine AWp.seq ?_
          refine W.reg [0, 1] rfl ?_
          refine S.sil 74 rfl rfl (fun _ hF => .move (lk 0 rfl rfl)) ?_
          obtain ⟨l20, m20, h⟩ := h.bnd
          refine S.eff 75 rfl rfl (.nf (H2 := [.buf 587 (List.map E_TField l20)]) (.sortFunc (ρ := Go.Proofs.Try.sort51_ren) srt51 rfl rfl ag33 sz33 ty_TField planCmp_swo ent51 ent52 ltL_nil (fun x y => C_plan_Apply_1 (plan_Apply_1_eq x y)) cF (lk 0 rfl rfl) cF rfl (by first | rfl | simp) m20 rfl) rfl rfl) trivial ?_
          refine S.nil ?_
          refine thenQ_n ?_
          refine AWp.seq ?_
          refine W.reg [0, 1, 2] rfl ?_
          refine S.sil 76 rfl rfl (fun _ hF => .move (lk 2 rfl rfl)) ?_
          refine S.sil 4 rfl rfl (fun _ hF => .assign (lk 0 rfl rfl)) ?_
          refine S.sil 5 rfl rfl (fun _ hF => .assign cI) ?_
          refine S.nil ?_
          refine thenQ_n ?_
          refine AWp.ret ?_
          refine endF_wk (Wk.freeze 0 rfl rfl (.same (lk 0 rfl rfl) (.cons (lk 1 rfl rfl) rfl (.slo (by first | rfl | simp [(sort_len planCmp_swo m20)])) (.same (lk 0 rfl rfl) (.same (lk 1 rfl rfl) .nil)))) (.refl _)) ?_
          obtain rfl := h.ret
          exact endFN rfl (Wk.selS [] .nil rfl (SelE.leaf (lk 1 rfl rfl) rfl (.refl _) (fun m => (ty_S_TField.lt _ _)) (SelE.leaf (lk 0 rfl rfl) rfl (.refl _) (fun m => ((TyOk.int .i64).lt _ _)) .nil)) .nil) (.cons (.tmp (lk 0 rfl rfl) rfl) (.cons (.tmp (lk 1 rfl rfl) rfl) .nil)) rfl rfl rfl
    · skip
      refine AWp.skip ?_
      refine thenQ_n ?_
      refine AWp.prune (.eq (lk 10 rfl rfl) rfl (.eq (lk 11 rfl rfl) rfl (.eq (lk 12 rfl rfl) rfl (.eq (lk 13 rfl rfl) rfl (.eq (lk 14 rfl rfl) rfl (.eq (lk 15 rfl rfl) rfl .nil)))))) ?_
      refine AWp.seq ?_
      refine W.regD [0, 1, 2, 3, 4, 5, 6, 7, 8, 9, 10, 11] mixed ?_
      refine S.sil 42 rfl rfl (fun _ hF => .move (lk 5 rfl rfl)) ?_
      refine S.sil 43 rfl rfl (fun _ hF => .move (lk 2 rfl rfl)) ?_
      obtain ⟨j21, m21, h⟩ := h.bnd
      refine S.sil 44 rfl rfl (fun _ hF => .ixS sli49 (lk 1 rfl rfl) (lk 0 rfl rfl) m21) ?_
      obtain ⟨v22, ev22, h⟩ := h.nam
      refine S.sil 45 rfl rfl (fun _ hF => .nv (.loadC sz33 ag33 (lk 0 rfl rfl) (ty_TField.fl (a1.getD j21 default)) rfl) (congrArg E_TField ev22.symm)) ?_
      refine S.qui 46 rfl rfl (fun _ => .loadP sz33 ag33 (lk 4 rfl rfl) rfl .nil (by first | rfl | omega) (fl_st (flL_c (show flen _ = 1 from rfl) (flL_c (show flen _ = 1 from rfl) (flL_c (show flen _ = 1 from rfl) (flL_c (ty_TCounter.fl (default : TCounter)) (flL_c (ty_TLock.fl (default : TLock)) (flL_c (show flen _ = 1 from rfl) flL_nil))))))) rfl) ?_
      refine S.sil 47 rfl rfl (fun _ hF => .loadC sz51 ag51 (lk 9 rfl rfl) (ty_TPlan.fl a2) rfl) ?_
      obtain ⟨r23, m23, h⟩ := h.bnd
      refine S.new 48 rfl rfl (.callN ent49 cF [] (C_plan_change_own m23) .nil .nil (ltL_c (ty_TField.lt _ _) (ltL_c (ty_TField.lt _ _) (ltL_c (ty_TPlan.lt _ _) ltL_nil))) (.c (lk 2 rfl rfl) (vsubr (V.sub.refl _) (ty_TField.lt _ 0)) (.c (lk 1 rfl rfl) (vsubr (vsub rfl (.st (.cons (.refl _) (.cons (.refl _) (.cons (.refl _) (.cons (.refl _) (.cons (.refl _) (.cons (.nils_no _) .nil)))))))) (ty_TField.lt _ 0)) (.c (lk 0 rfl rfl) (vsubr (V.sub.refl _) (ty_TPlan.lt _ 0)) .nil))) (ren_tup (renL_c rfl (renL_c ((TyOk.int .i64).cl _ _) rfl))) (mapc (ren_buf ty_TField _) rfl) rfl) trivial ?_
      refine S.sil 41 rfl rfl (fun _ hF => .move (lk 0 rfl rfl)) ?_
      refine S.sil 49 rfl rfl (fun _ hF => .extract (lk 0 rfl rfl) rfl) ?_
      refine S.sil 50 rfl rfl (fun _ hF => .extract (lk 1 rfl rfl) rfl) ?_
      refine S.sil 12 rfl rfl (fun _ hF => .assign (lk 1 rfl rfl)) ?_
      refine S.sil 13 rfl rfl (fun _ hF => .assign (lk 1 rfl rfl)) ?_
      refine S.nilD (by kernel_rfl) ?_
      refine thenQ_n ?_
      refine AWp.prune (.eq (lk 0 rfl rfl) rfl (.eq (lk 1 rfl rfl) rfl (.eq (lk 14 rfl rfl) rfl (.eq (lk 15 rfl rfl) rfl (.eq (lk 16 rfl rfl) rfl (.eq (lk 17 rfl rfl) rfl .nil)))))) ?_
      refine AWp.seq ?_
      refine AWp.seq ?_
      refine W.reg [0, 1] rfl ?_
      refine S.sil 51 rfl rfl (fun _ hF => .move (lk 0 rfl rfl)) ?_
      refine S.sil 52 rfl rfl (fun _ hF => .neq (lk 0 rfl rfl) cI) ?_
      refine S.nil ?_
      refine thenQ_n ?_
      refine AWp.condM (lk 0 rfl rfl) h (fun c6 h => ?_) (fun c6 h => ?_)
      · skip
        refine AWp.seq ?_
        refine W.reg [0, 1, 2] rfl ?_
        refine S.sil 53 rfl rfl (fun _ hF => .move (lk 2 rfl rfl)) ?_
        refine S.sil 4 rfl rfl (fun _ hF => .assign cNs) ?_
        refine S.sil 5 rfl rfl (fun _ hF => .assign (lk 1 rfl rfl)) ?_
        refine S.nil ?_
        refine thenQ_n ?_
        refine AWp.ret ?_
        refine thenQ_r ?_
        obtain rfl := h.ret
        exact endFN rfl (Wk.selS [] .nil rfl (SelE.leaf (lk 1 rfl rfl) rfl (.nils_no _) (fun m => (ty_S_TField.lt ([] : List TField) _)) (SelE.leaf (lk 0 rfl rfl) rfl (.refl _) (fun m => ((TyOk.int .i64).lt _ _)) .nil)) .nil) (.cons (.tmp (lk 0 rfl rfl) rfl) (.cons (.tmp (lk 1 rfl rfl) rfl) .nil)) rfl rfl rfl
      · skip
        refine AWp.skip ?_
        refine thenQ_n ?_
        refine AWp.seq ?_
        refine AWp.seq ?_
        refine W.reg [0, 1, 2] rfl ?_
        refine S.sil 54 rfl rfl (fun _ hF => .move (lk 7 rfl rfl)) ?_
        refine S.sil 55 rfl rfl (fun _ hF => .lenT sli49 (lk 0 rfl rfl) (vsub rfl (.refl _))) ?_
        refine S.sil 56 rfl rfl (fun _ hF => .move cI) ?_
        refine S.nil ?_
        refine thenQ_n ?_
        refine AWp.cutX (fun x26 => ⟨[(12, .slo 587 0 [] 0 0 x26.length 1), (5, (V.int .i64) 0), (4, .nils)], [.buf 587 (List.map E_TField x26)]⟩) nc_then h (fun q24 hq24 => ?_) (fun x26 h => ?_)
        · refine AWp.block ?_
          refine AWp.loopT (fun s25 => ⟨[(56, (V.int .i64) s25.1), (55, (V.int .i64) (a1.length : Int)), (54, .sl 587 .no (List.map E_TField a1)), (12, .slo 587 0 [] 0 0 s25.2.length 1), (5, (V.int .i64) 0), (4, .nils), (3, .cptr (E_TPlan a2))], [.buf 587 (List.map E_TField s25.2)]⟩) hq24 (Wk.selS [2] (by decide) rfl (SelE.leaf (lk 0 rfl rfl) rfl (.refl _) (fun m => ((TyOk.int .i64).lt _ _)) (SelE.leaf (lk 1 rfl rfl) rfl (.refl _) (fun m => ((TyOk.int .i64).lt _ _)) (SelE.leaf (lk 2 rfl rfl) rfl (.refl _) (fun m => (lt_sl rfl (ty_TField.ltm _ _))) (SelE.spec (lk 6 rfl rfl) rfl (.slo (by first | rfl | simp)) rfl rfl (SelE.leaf (lk 7 rfl rfl) rfl (.refl _) (fun m => ((TyOk.int .i64).lt _ _)) (SelE.leaf (lk 8 rfl rfl) rfl (.refl _) (fun m => rfl) (SelE.leaf (lk 9 rfl rfl) rfl (.refl _) (fun m => (lt_cptr (ty_TPlan.lt _ _))) .nil))))))) (.cons (lt_buf ty_TField) rfl ⟨rfl, RSubL.leafr ty_TField _ rfl⟩ .nil)) (fun _ s25 h24 => ?_)
          rw [plan_Apply_L2] at h24
          refine AWp.seq ?_
          refine W.reg [0] rfl ?_
          refine S.sil 57 rfl rfl (fun _ hF => .lss (lk 0 rfl rfl) (lk 1 rfl rfl)) ?_
          refine S.nil ?_
          refine thenQ_n ?_
          refine AWp.seq ?_
          refine AWp.condM (lk 0 rfl rfl) h24 (fun c7 h24 => ?_) (fun c7 h24 => ?_)
          · skip
            refine AWp.skip ?_
            refine thenQ_n ?_
            refine AWp.seq ?_
            refine AWp.block ?_
            refine AWp.seq ?_
            refine W.reg [0, 1, 2, 3] rfl ?_
            obtain ⟨j27, m27, h24⟩ := h24.bnd
            refine S.sil 58 rfl rfl (fun _ hF => .ixS sli49 (lk 3 rfl rfl) (lk 1 rfl rfl) m27) ?_
            obtain ⟨v28, ev28, h24⟩ := h24.nam
            refine S.sil 59 rfl rfl (fun _ hF => .nv (.loadC sz33 ag33 (lk 0 rfl rfl) (ty_TField.fl (a1.getD j27 default)) rfl) (congrArg E_TField ev28.symm)) ?_
            refine S.eff 15 rfl rfl (.nf (v2 := .ptr 1 [] 0) (H2 := [.buf 587 (List.map E_TField s25.2), .cells (.st [V.str (default : ByteArray), (V.int .i64) 0, (V.int .i64) 0, E_TCounter (default : TCounter), E_TLock (default : TLock), .nils])]) (.alloc zv33) rfl rfl) trivial ?_
            refine S.effN rfl rfl (.nf (H2 := [.buf 587 (List.map E_TField s25.2), .cells (E_TField v28)]) (.storeP sz33 (lk 0 rfl rfl) (lk 1 rfl rfl) rfl (.refl _) rfl .nil (by first | rfl | omega) .nil (ty_TField.fl v28) (fl_st (flL_c (show flen _ = 1 from rfl) (flL_c (show flen _ = 1 from rfl) (flL_c (show flen _ = 1 from rfl) (flL_c (ty_TCounter.fl (default : TCounter)) (flL_c (ty_TLock.fl (default : TLock)) (flL_c (show flen _ = 1 from rfl) flL_nil))))))) rfl) rfl rfl) trivial ?_
            refine S.nil ?_
            refine thenQ_n ?_
            refine AWp.seq ?_
            refine W.reg [0, 1, 2, 3, 4] rfl ?_
            refine S.sil 60 rfl rfl (fun _ hF => .loadC sz51 ag51 (lk 10 rfl rfl) (ty_TPlan.fl a2) rfl) ?_
            refine S.sil 61 rfl rfl (fun _ hF => .fieldAddr lay33 rfl rfl (lk 1 rfl rfl)) ?_
            refine S.qui 62 rfl rfl (fun _ => .loadP sz9 ag9 (lk 0 rfl rfl) rfl (.st rfl flL_nil .nil) (by first | rfl | omega) rfl rfl) ?_
            obtain ⟨r29, m29, h24⟩ := h24.bnd
            refine S.sil 63 rfl rfl (fun _ hF => .callQ ent50 cF (.c (lk 2 rfl rfl) (V.sub.refl _) (.c (lk 0 rfl rfl) (V.sub.refl _) .nil)) (C_plan_Touched m29)) ?_
            refine S.sil 64 rfl rfl (fun _ hF => .not (lk 0 rfl rfl)) ?_
            refine S.nil ?_
            refine thenQ_n ?_
            refine AWp.condM (lk 0 rfl rfl) h24 (fun c8 h24 => ?_) (fun c8 h24 => ?_)
            · skip
              refine AWp.seq ?_
              refine W.reg [0, 1, 2, 3, 4] rfl ?_
              refine S.sil 65 rfl rfl (fun _ hF => .fieldAddr lay33 rfl rfl (lk 5 rfl rfl)) ?_
              refine S.qui 66 rfl rfl (fun _ => .loadP sz31 ag31 (lk 0 rfl rfl) rfl (.st rfl (flL_c (show flen _ = 1 from rfl) (flL_c (show flen _ = 1 from rfl) (flL_c (show flen _ = 1 from rfl) (flL_c (ty_TCounter.fl v28.Counter) (flL_c (ty_TLock.fl v28.Lock) flL_nil))))) .nil) (by first | rfl | omega) rfl rfl) ?_
              obtain ⟨r30, m30, h24⟩ := h24.bnd
              refine S.sil 67 rfl rfl (fun _ hF => .callQ ent38 cF (.c (lk 0 rfl rfl) (V.sub.refl _) .nil) (C_clone_38 m30)) ?_
              refine S.sil 68 rfl rfl (fun _ hF => .fieldAddr lay33 rfl rfl (lk 8 rfl rfl)) ?_
              obtain ⟨v31, ev31, h24⟩ := h24.nam
              refine S.effN rfl rfl (.nf (H2 := [.buf 587 (List.map E_TField s25.2), .cells (E_TField v31)]) (.storeP sz31 (lk 0 rfl rfl) (lk 1 rfl rfl) rfl (.refl _) rfl (.st rfl (flL_c (show flen _ = 1 from rfl) (flL_c (show flen _ = 1 from rfl) (flL_c (show flen _ = 1 from rfl) (flL_c (ty_TCounter.fl v28.Counter) (flL_c (ty_TLock.fl v28.Lock) flL_nil))))) .nil) (by first | rfl | omega) (.st rfl .nil rfl) rfl rfl (congrArg (fun z => ([.buf 587 (List.map E_TField s25.2), AObj.cells (E_TField z)] : List AObj)) ev31.symm)) rfl rfl) trivial ?_
              refine S.nil ?_
              refine thenQ_n ?_
              refine W.reg [0, 1, 2, 3, 4] rfl ?_
              refine S.sil 69 rfl rfl (fun _ hF => .move (lk 16 rfl rfl)) ?_
              refine S.qui 70 rfl rfl (fun _ => .loadP sz33 ag33 (lk 10 rfl rfl) rfl .nil (by first | rfl | omega) (ty_TField.fl v31) rfl) ?_
              refine S.sil 71 rfl rfl (fun _ hF => .buildSliceW sli49 zv33 rfl rfl (by decide) (.cons (lk 0 rfl rfl) rfl (.refl _) (ty_TField.fl v31) .nil)) ?_
              obtain ⟨l32, m32, h24⟩ := h24.bnd
              refine S.eff 72 rfl rfl (.nf (v2 := .slo 587 2 [] 0 0 l32.length 1) (H2 := [.dead, .cells (E_TField v31), .buf 587 (List.map E_TField l32)]) (.appOwnT sli49 und49 zv33 rfl (by decide) (lk 2 rfl rfl) rfl (by first | rfl | simp) (lk 0 rfl rfl) Rd.sl m32 rfl) rfl rfl) trivial ?_
              refine S.sil 12 rfl rfl (fun _ hF => .assign (lk 0 rfl rfl)) ?_
              refine S.nil ?_
              refine blockQ_n ?_
              refine thenQ_n ?_
              refine W.reg [0, 1] rfl ?_
              refine S.sil 73 rfl rfl (fun _ hF => .add (lk 18 rfl rfl) cI) ?_
              refine S.sil 56 rfl rfl (fun _ hF => .move (lk 0 rfl rfl)) ?_
              refine S.nil ?_
              refine thenQ_n ?_
              exact ⟨_, h24.ret, (Wk.selS [2] (by decide) rfl (SelE.leaf (lk 0 rfl rfl) rfl (.refl _) (fun m => ((TyOk.int .i64).lt _ _)) (SelE.leaf (lk 21 rfl rfl) rfl (.refl _) (fun m => ((TyOk.int .i64).lt _ _)) (SelE.leaf (lk 22 rfl rfl) rfl (.refl _) (fun m => (lt_sl rfl (ty_TField.ltm _ _))) (SelE.spec (lk 2 rfl rfl) rfl (.slo (by first | rfl | simp)) rfl rfl (SelE.leaf (lk 24 rfl rfl) rfl (.refl _) (fun m => ((TyOk.int .i64).lt _ _)) (SelE.leaf (lk 25 rfl rfl) rfl (.refl _) (fun m => rfl) (SelE.leaf (lk 26 rfl rfl) rfl (.refl _) (fun m => (lt_cptr (ty_TPlan.lt _ _))) .nil))))))) (.cons (lt_buf ty_TField) rfl ⟨rfl, RSubL.leafr ty_TField _ rfl⟩ .nil))⟩
            · skip
              refine AWp.skip ?_
              refine blockQ_n ?_
              refine thenQ_n ?_
              refine W.reg [0, 1] rfl ?_
              refine S.sil 73 rfl rfl (fun _ hF => .add (lk 9 rfl rfl) cI) ?_
              refine S.sil 56 rfl rfl (fun _ hF => .move (lk 0 rfl rfl)) ?_
              refine S.nil ?_
              refine thenQ_n ?_
              exact ⟨_, h24.ret, (Wk.selS [0] (by decide) rfl (SelE.leaf (lk 0 rfl rfl) rfl (.refl _) (fun m => ((TyOk.int .i64).lt _ _)) (SelE.leaf (lk 12 rfl rfl) rfl (.refl _) (fun m => ((TyOk.int .i64).lt _ _)) (SelE.leaf (lk 13 rfl rfl) rfl (.refl _) (fun m => (lt_sl rfl (ty_TField.ltm _ _))) (SelE.spec (lk 14 rfl rfl) rfl (.slo (by first | rfl | simp)) rfl rfl (SelE.leaf (lk 15 rfl rfl) rfl (.refl _) (fun m => ((TyOk.int .i64).lt _ _)) (SelE.leaf (lk 16 rfl rfl) rfl (.refl _) (fun m => rfl) (SelE.leaf (lk 17 rfl rfl) rfl (.refl _) (fun m => (lt_cptr (ty_TPlan.lt _ _))) .nil))))))) (.cons (lt_buf ty_TField) rfl ⟨rfl, RSubL.leafr ty_TField _ rfl⟩ .nil))⟩
          · skip
            refine AWp.exit ?_
            refine thenQ_x ?_
            refine thenQ_x ?_
            refine blockQ_x ?_
            refine thenQ_n ?_
            exact ⟨_, h24.ret, (Wk.selS [0] (by decide) rfl (SelE.spec (lk 4 rfl rfl) rfl (.slo (by first | rfl | simp)) rfl rfl (SelE.leaf (lk 5 rfl rfl) rfl (.refl _) (fun m => ((TyOk.int .i64).lt _ _)) (SelE.leaf (lk 6 rfl rfl) rfl (.refl _) (fun m => rfl) .nil))) (.cons (lt_buf ty_TField) rfl ⟨rfl, RSubL.leafr ty_TField _ rfl⟩ .nil))⟩
        · skip
          refine thenQ_n ?_
          refine AWp.seq ?_
          refine W.reg [0, 1] rfl ?_
          refine S.sil 74 rfl rfl (fun _ hF => .move (lk 0 rfl rfl)) ?_
          obtain ⟨l33, m33, h⟩ := h.bnd
          refine S.eff 75 rfl rfl (.nf (H2 := [.buf 587 (List.map E_TField l33)]) (.sortFunc (ρ := Go.Proofs.Try.sort51_ren) srt51 rfl rfl ag33 sz33 ty_TField planCmp_swo ent51 ent52 ltL_nil (fun x y => C_plan_Apply_1 (plan_Apply_1_eq x y)) cF (lk 0 rfl rfl) cF rfl (by first | rfl | simp) m33 rfl) rfl rfl) trivial ?_
          refine S.nil ?_
          refine thenQ_n ?_
          refine AWp.seq ?_
          refine W.reg [0, 1, 2] rfl ?_
          refine S.sil 76 rfl rfl (fun _ hF => .move (lk 2 rfl rfl)) ?_
          refine S.sil 4 rfl rfl (fun _ hF => .assign (lk 0 rfl rfl)) ?_
          refine S.sil 5 rfl rfl (fun _ hF => .assign cI) ?_
          refine S.nil ?_
          refine thenQ_n ?_
          refine AWp.ret ?_
          refine endF_wk (Wk.freeze 0 rfl rfl (.same (lk 0 rfl rfl) (.cons (lk 1 rfl rfl) rfl (.slo (by first | rfl | simp [(sort_len planCmp_swo m33)])) (.same (lk 0 rfl rfl) (.same (lk 1 rfl rfl) .nil)))) (.refl _)) ?_
          obtain rfl := h.ret
          exact endFN rfl (Wk.selS [] .nil rfl (SelE.leaf (lk 1 rfl rfl) rfl (.refl _) (fun m => (ty_S_TField.lt _ _)) (SelE.leaf (lk 0 rfl rfl) rfl (.refl _) (fun m => ((TyOk.int .i64).lt _ _)) .nil)) .nil) (.cons (.tmp (lk 0 rfl rfl) rfl) (.cons (.tmp (lk 1 rfl rfl) rfl) .nil)) rfl rfl rfl
theorem C_plan_Total {a1 : List TField} {r : Int × Int} (h : plan_Total a1 = some r) : PureC Pg 46 [.sl 587 .no (List.map E_TField a1)] (.tup [(V.int .i64) r.1, (V.int .i64) r.2]) := by
  refine PureC.ofF (CallSpec.of_bodyF 32 0 fn46 rfl rfl rfl (Nat.le_of_ble_eq_true rfl) ?_) (ltL_c (lt_sl rfl (ty_TField.ltm _ _)) ltL_nil) (lt_tup (ltL_c ((TyOk.int .i64).lt _ _) (ltL_c ((TyOk.int .i64).lt _ _) ltL_nil)))
  replace h := Ok.of h
  unfold plan_Total at h
  refine AWp.seq ?_
  refine W.reg [0, 1] rfl ?_
  refine S.sil 2 rfl rfl (fun _ hF => .assign cI) ?_
  refine S.sil 3 rfl rfl (fun _ hF => .assign cI) ?_
  refine S.nil ?_
  refine thenQ_n ?_
  refine AWp.seq ?_
  refine W.reg [0] rfl ?_
  refine S.sil 4 rfl rfl (fun _ hF => .assign cNs) ?_
  refine S.nil ?_
  refine thenQ_n ?_
  refine AWp.seq ?_
  refine AWp.seq ?_
  refine W.reg [0, 1, 2] rfl ?_
  refine S.sil 9 rfl rfl (fun _ hF => .move (lk 3 rfl rfl)) ?_
  refine S.sil 10 rfl rfl (fun _ hF => .lenT sli49 (lk 0 rfl rfl) (vsub rfl (.refl _))) ?_
  refine S.sil 11 rfl rfl (fun _ hF => .move cI) ?_
  refine S.nil ?_
  refine thenQ_n ?_
  refine AWp.cutL (fun x4 => ⟨[(4, .sl 1 (.tok 0) (List.map (V.int .i64) x4)), (3, (V.int .i64) 0), (2, (V.int .i64) 0)], [.tail]⟩) nc_then h (fun q2 hq2 h => ?_) (fun x4 h => ?_)
  · refine AWp.block ?_
    refine AWp.loopT (fun s3 => ⟨[(11, (V.int .i64) s3.1), (10, (V.int .i64) (a1.length : Int)), (9, .sl 587 .no (List.map E_TField a1)), (4, .sl 1 (.tok 0) (List.map (V.int .i64) s3.2)), (3, (V.int .i64) 0), (2, (V.int .i64) 0)], [.tail]⟩) hq2 (Wk.vacant.trans (Wk.selS [0] (by decide) rfl (SelE.leaf (lk 0 rfl rfl) rfl (.refl _) (fun m => ((TyOk.int .i64).lt _ _)) (SelE.leaf (lk 1 rfl rfl) rfl (.refl _) (fun m => ((TyOk.int .i64).lt _ _)) (SelE.leaf (lk 2 rfl rfl) rfl (.refl _) (fun m => (lt_sl rfl (ty_TField.ltm _ _))) (SelE.spec (lk 3 rfl rfl) rfl (.nils_tok _ _) (ren_sl (TyOk.int .i64) _) (lt_sl rfl ((TyOk.int .i64).ltm _ _)) (SelE.leaf (lk 4 rfl rfl) rfl (.refl _) (fun m => ((TyOk.int .i64).lt _ _)) (SelE.leaf (lk 5 rfl rfl) rfl (.refl _) (fun m => ((TyOk.int .i64).lt _ _)) .nil)))))) (.cons rfl rfl trivial .nil))) (fun _ s3 h2 => ?_)
    rw [plan_Total_L1] at h2
    refine AWp.seq ?_
    refine W.reg [0] rfl ?_
    refine S.sil 12 rfl rfl (fun _ hF => .lss (lk 0 rfl rfl) (lk 1 rfl rfl)) ?_
    refine S.nil ?_
    refine thenQ_n ?_
    refine AWp.seq ?_
    refine AWp.condM (lk 0 rfl rfl) h2 (fun c1 h2 => ?_) (fun c1 h2 => ?_)
    · skip
      refine AWp.skip ?_
      refine thenQ_n ?_
      refine AWp.seq ?_
      refine AWp.block ?_
      refine AWp.seq ?_
      refine W.reg [0, 1, 2, 3] rfl ?_
      obtain ⟨j5, m5, h2⟩ := h2.bnd
      refine S.sil 13 rfl rfl (fun _ hF => .ixS sli49 (lk 3 rfl rfl) (lk 1 rfl rfl) m5) ?_
      obtain ⟨v6, ev6, h2⟩ := h2.nam
      refine S.sil 14 rfl rfl (fun _ hF => .nv (.loadC sz33 ag33 (lk 0 rfl rfl) (ty_TField.fl (a1.getD j5 default)) rfl) (congrArg E_TField ev6.symm)) ?_
      refine S.eff 6 rfl rfl (.nf (v2 := .ptr 1 [] 0) (H2 := [.tail, .cells (.st [V.str (default : ByteArray), (V.int .i64) 0, (V.int .i64) 0, E_TCounter (default : TCounter), E_TLock (default : TLock), .nils])]) (.alloc zv33) rfl rfl) trivial ?_
      refine S.effN rfl rfl (.nf (H2 := [.tail, .cells (E_TField v6)]) (.storeP sz33 (lk 0 rfl rfl) (lk 1 rfl rfl) rfl (.refl _) rfl .nil (by first | rfl | omega) .nil (ty_TField.fl v6) (fl_st (flL_c (show flen _ = 1 from rfl) (flL_c (show flen _ = 1 from rfl) (flL_c (show flen _ = 1 from rfl) (flL_c (ty_TCounter.fl (default : TCounter)) (flL_c (ty_TLock.fl (default : TLock)) (flL_c (show flen _ = 1 from rfl) flL_nil))))))) rfl) rfl rfl) trivial ?_
      refine S.nil ?_
      refine thenQ_n ?_
      refine AWp.wk (Wk.freeze 1 rfl rfl (.cons (lk 0 rfl rfl) rfl (.ptr .nil (by first | rfl | omega)) (.same (lk 1 rfl rfl) (.same (lk 2 rfl rfl) (.same (lk 3 rfl rfl) (.same (lk 4 rfl rfl) (.same (lk 5 rfl rfl) (.same (lk 6 rfl rfl) (.same (lk 7 rfl rfl) (.same (lk 8 rfl rfl) (.same (lk 9 rfl rfl) .nil)))))))))) (.refl _)) ?_
      refine AWp.seq ?_
      refine W.reg [0, 1, 2, 3, 4, 5, 6] rfl ?_
      refine S.sil 16 rfl rfl (fun _ hF => .loadC sz33 ag33 (lk 0 rfl rfl) (ty_TField.fl v6) rfl) ?_
      obtain ⟨r7, m7, h2⟩ := h2.bnd
      refine S.sil 17 rfl rfl (fun _ hF => .callQ ent61 cF (.c (lk 0 rfl rfl) (V.sub.refl _) .nil) (C_field_View m7)) ?_
      refine S.sil 15 rfl rfl (fun _ hF => .move (lk 0 rfl rfl)) ?_
      refine S.sil 18 rfl rfl (fun _ hF => .extract (lk 0 rfl rfl) rfl) ?_
      refine S.sil 19 rfl rfl (fun _ hF => .extract (lk 1 rfl rfl) rfl) ?_
      refine S.sil 7 rfl rfl (fun _ hF => .assign (lk 1 rfl rfl)) ?_
      refine S.sil 8 rfl rfl (fun _ hF => .assign (lk 1 rfl rfl)) ?_
      refine S.nil ?_
      refine thenQ_n ?_
      refine AWp.seq ?_
      refine AWp.seq ?_
      refine W.reg [0, 1] rfl ?_
      refine S.sil 20 rfl rfl (fun _ hF => .move (lk 0 rfl rfl)) ?_
      refine S.sil 21 rfl rfl (fun _ hF => .neq (lk 0 rfl rfl) cI) ?_
      refine S.nil ?_
      refine thenQ_n ?_
      refine AWp.condM (lk 0 rfl rfl) h2 (fun c2 h2 => ?_) (fun c2 h2 => ?_)
      · skip
        refine AWp.seq ?_
        refine W.reg [0, 1, 2] rfl ?_
        refine S.sil 22 rfl rfl (fun _ hF => .move (lk 2 rfl rfl)) ?_
        refine S.sil 2 rfl rfl (fun _ hF => .assign cI) ?_
        refine S.sil 3 rfl rfl (fun _ hF => .assign (lk 1 rfl rfl)) ?_
        refine S.nil ?_
        refine thenQ_n ?_
        refine AWp.ret ?_
        refine thenQ_r ?_
        refine blockQ_r ?_
        refine thenQ_r ?_
        refine thenQ_r ?_
        refine blockQ_r ?_
        refine thenQ_r ?_
        refine thenQ_r ?_
        have h := Ok.inrq h h2.ret
        obtain rfl := h.ret
        exact endFN rfl (Wk.selS [] .nil rfl (SelE.leaf (lk 1 rfl rfl) rfl (.refl _) (fun m => ((TyOk.int .i64).lt _ _)) (SelE.leaf (lk 0 rfl rfl) rfl (.refl _) (fun m => ((TyOk.int .i64).lt _ _)) .nil)) .nil) (.cons (.tmp (lk 0 rfl rfl) rfl) (.cons (.tmp (lk 1 rfl rfl) rfl) .nil)) rfl rfl rfl
      · skip
        refine AWp.skip ?_
        refine thenQ_n ?_
        refine W.reg [0, 1, 2, 3, 4] rfl ?_
        refine S.sil 23 rfl rfl (fun _ hF => .move (lk 16 rfl rfl)) ?_
        refine S.sil 24 rfl rfl (fun _ hF => .move (lk 4 rfl rfl)) ?_
        refine S.sil 25 rfl rfl (fun _ hF => .buildSliceW sli116 zv3 rfl rfl (by decide) (.cons (lk 0 rfl rfl) rfl (.refl _) rfl .nil)) ?_
        obtain ⟨l8, m8, h2⟩ := h2.bnd
        refine S.eff 26 rfl rfl (.nf (v2 := .sl 1 (.tok 2) (List.map (V.int .i64) l8)) (H2 := [.dead, .dead, .tail]) (.appT sli116 und116 zv3 rfl (by decide) (lk 2 rfl rfl) rfl (lk 0 rfl rfl) Rd.sl m8 rfl) rfl rfl) trivial ?_
        refine S.sil 4 rfl rfl (fun _ hF => .assign (lk 0 rfl rfl)) ?_
        refine S.nil ?_
        refine blockQ_n ?_
        refine thenQ_n ?_
        refine W.reg [0, 1] rfl ?_
        refine S.sil 27 rfl rfl (fun _ hF => .add (lk 18 rfl rfl) cI) ?_
        refine S.sil 11 rfl rfl (fun _ hF => .move (lk 0 rfl rfl)) ?_
        refine S.nil ?_
        refine thenQ_n ?_
        exact ⟨_, h2.ret, (Wk.selS [2] (by decide) rfl (SelE.leaf (lk 0 rfl rfl) rfl (.refl _) (fun m => ((TyOk.int .i64).lt _ _)) (SelE.leaf (lk 21 rfl rfl) rfl (.refl _) (fun m => ((TyOk.int .i64).lt _ _)) (SelE.leaf (lk 22 rfl rfl) rfl (.refl _) (fun m => (lt_sl rfl (ty_TField.ltm _ _))) (SelE.spec (lk 2 rfl rfl) rfl (.refl _) (ren_sl (TyOk.int .i64) _) (lt_sl rfl ((TyOk.int .i64).ltm _ _)) (SelE.leaf (lk 24 rfl rfl) rfl (.refl _) (fun m => ((TyOk.int .i64).lt _ _)) (SelE.leaf (lk 25 rfl rfl) rfl (.refl _) (fun m => ((TyOk.int .i64).lt _ _)) .nil)))))) (.cons rfl rfl trivial .nil))⟩
    · skip
      refine AWp.exit ?_
      refine thenQ_x ?_
      refine thenQ_x ?_
      refine blockQ_x ?_
      refine thenQ_n ?_
      exact ⟨_, h2.ret, (Wk.selS [0] (by decide) rfl (SelE.spec (lk 4 rfl rfl) rfl (.refl _) (ren_sl (TyOk.int .i64) _) (lt_sl rfl ((TyOk.int .i64).ltm _ _)) (SelE.leaf (lk 5 rfl rfl) rfl (.refl _) (fun m => ((TyOk.int .i64).lt _ _)) (SelE.leaf (lk 6 rfl rfl) rfl (.refl _) (fun m => ((TyOk.int .i64).lt _ _)) .nil))) (.cons rfl rfl trivial .nil))⟩
  · skip
    refine thenQ_n ?_
    refine AWp.seq ?_
    refine W.reg [0, 1, 2, 3, 4, 5] rfl ?_
    refine S.sil 28 rfl rfl (fun _ hF => .move (lk 0 rfl rfl)) ?_
    obtain ⟨r9, m9, h⟩ := h.bnd
    refine S.sil 29 rfl rfl (fun _ hF => .callQ ent87 cF (.c (lk 0 rfl rfl) (vsub rfl (.forget _ _ _)) .nil) (C_num_Sum m9)) ?_
    refine S.sil 30 rfl rfl (fun _ hF => .extract (lk 0 rfl rfl) rfl) ?_
    refine S.sil 31 rfl rfl (fun _ hF => .extract (lk 1 rfl rfl) rfl) ?_
    refine S.sil 2 rfl rfl (fun _ hF => .assign (lk 1 rfl rfl)) ?_
    refine S.sil 3 rfl rfl (fun _ hF => .assign (lk 1 rfl rfl)) ?_
    refine S.nil ?_
    refine thenQ_n ?_
    refine AWp.ret ?_
    obtain rfl := h.ret
    exact endFN rfl (Wk.selS [] .nil rfl (SelE.leaf (lk 1 rfl rfl) rfl (.refl _) (fun m => ((TyOk.int .i64).lt _ _)) (SelE.leaf (lk 0 rfl rfl) rfl (.refl _) (fun m => ((TyOk.int .i64).lt _ _)) .nil)) .nil) (.cons (.tmp (lk 0 rfl rfl) rfl) (.cons (.tmp (lk 1 rfl rfl) rfl) .nil)) rfl rfl rfl
end Go.Av
