/- Each function tells what its mirror tells. -/
import Derived.Test.YtakadpmjdhcckaaAvPlanBoundsG2
import Derived.Test.YtakadpmjdhcckaaProg
import Derived.KernelRfl
namespace Go.Av
set_option linter.unusedSectionVars false
open Go.Proofs
set_option linter.unusedVariables false
set_option linter.unusedSimpArgs false
set_option maxHeartbeats 4000000
set_option maxRecDepth 10000
theorem C_usufructlaw13_awake  {r : Bool} (h : usufructlaw13_awake = some r) : PureC Pg 21 [] (V.bool r) := by
  refine PureC.ofF (CallSpec.of_bodyF 62 0 fn21 rfl rfl rfl (Nat.le_of_ble_eq_true rfl) ?_) ltL_nil (TyOk.bool.lt _ _)
  replace h := Ok.of h
  unfold usufructlaw13_awake at h
  refine AWp.seq ?_
  refine W.reg [0] rfl ?_
  refine S.sil 0 rfl rfl (fun _ hF => .assign cB) ?_
  refine S.nil ?_
  refine thenQ_n ?_
  refine AWp.seq ?_
  refine W.reg [0, 1, 2, 3, 4, 5, 6] rfl ?_
  obtain ⟨r1, m1, h⟩ := h.bnd
  refine S.sil 8 rfl rfl (fun _ hF => .callQ ent34 cF (.c cS (V.sub.refl _) (.c cI (V.sub.refl _) (.c cI (V.sub.refl _) (.c cI (V.sub.refl _) .nil)))) (C_field_Counter m1)) ?_
  refine S.sil 7 rfl rfl (fun _ hF => .move (lk 0 rfl rfl)) ?_
  refine S.sil 9 rfl rfl (fun _ hF => .extract (lk 0 rfl rfl) rfl) ?_
  refine S.sil 10 rfl rfl (fun _ hF => .extract (lk 1 rfl rfl) rfl) ?_
  refine S.eff 1 rfl rfl (.nf (v2 := .ptr 0 [] 0) (H2 := [.cells (.st [V.str (default : ByteArray), (V.int .i64) 0, (V.int .i64) 0, E_TCounter (default : TCounter), E_TLock (default : TLock), .nils])]) (.alloc zv33) rfl rfl) trivial ?_
  refine S.effN rfl rfl (.nf (H2 := [.cells (E_TField r1.1)]) (.storeP sz33 (lk 0 rfl rfl) (lk 2 rfl rfl) rfl (.refl _) rfl .nil (by first | rfl | omega) .nil (ty_TField.fl r1.1) (fl_st (flL_c (show flen _ = 1 from rfl) (flL_c (show flen _ = 1 from rfl) (flL_c (show flen _ = 1 from rfl) (flL_c (ty_TCounter.fl (default : TCounter)) (flL_c (ty_TLock.fl (default : TLock)) (flL_c (show flen _ = 1 from rfl) flL_nil))))))) rfl) rfl rfl) trivial ?_
  refine S.sil 2 rfl rfl (fun _ hF => .assign (lk 1 rfl rfl)) ?_
  refine S.nil ?_
  refine thenQ_n ?_
  refine AWp.wk (Wk.freeze 0 rfl rfl (.cons (lk 1 rfl rfl) rfl (.ptr .nil (by first | rfl | omega)) (.same (lk 6 rfl rfl) .nil)) (.refl _)) ?_
  refine AWp.seq ?_
  refine W.reg [0, 1, 2, 3, 4, 5, 6, 7, 8] rfl ?_
  refine S.sil 12 rfl rfl (fun _ hF => .loadC sz33 ag33 (lk 0 rfl rfl) (ty_TField.fl r1.1) rfl) ?_
  refine S.sil 13 rfl rfl (fun _ hF => .buildSliceW sli49 zv33 rfl rfl (by decide) (.cons (lk 0 rfl rfl) rfl (.refl _) (ty_TField.fl r1.1) .nil)) ?_
  obtain ⟨v2, ev2, h⟩ := h.nam
  refine S.sil 14 rfl rfl (fun _ hF => .nv (.nv (v2 := E_TPlan (⟨5, (⟨#[97]⟩ : ByteArray), (⟨#[98]⟩ : ByteArray), 5, 0⟩ : TPlan)) (.buildStW lay51 zv51 rfl (.cons cI rfl rfl rfl rfl (.cons cS rfl rfl rfl rfl (.cons cS rfl rfl rfl rfl (.cons cI rfl rfl rfl rfl .nil))))) rfl) (congrArg E_TPlan ev2.symm)) ?_
  obtain ⟨r3, m3, h⟩ := h.bnd
  refine S.sil 15 rfl rfl (fun _ hF => .callQ ent22 cF (.c (lk 1 rfl rfl) (vsub rfl (.forget _ _ _)) (.c (lk 0 rfl rfl) (V.sub.refl _) .nil)) (C_plan_Apply m3)) ?_
  refine S.sil 11 rfl rfl (fun _ hF => .move (lk 0 rfl rfl)) ?_
  refine S.sil 16 rfl rfl (fun _ hF => .extract (lk 0 rfl rfl) rfl) ?_
  refine S.sil 17 rfl rfl (fun _ hF => .extract (lk 1 rfl rfl) rfl) ?_
  refine S.sil 3 rfl rfl (fun _ hF => .assign (lk 1 rfl rfl)) ?_
  refine S.sil 4 rfl rfl (fun _ hF => .assign (lk 1 rfl rfl)) ?_
  refine S.nil ?_
  refine thenQ_n ?_
  refine AWp.seq ?_
  refine W.reg [0, 1, 2, 3, 4, 5, 6] rfl ?_
  refine S.sil 19 rfl rfl (fun _ hF => .move (lk 1 rfl rfl)) ?_
  obtain ⟨r4, m4, h⟩ := h.bnd
  refine S.sil 20 rfl rfl (fun _ hF => .callQ ent46 cF (.c (lk 0 rfl rfl) (V.sub.refl _) .nil) (C_plan_Total m4)) ?_
  refine S.sil 18 rfl rfl (fun _ hF => .move (lk 0 rfl rfl)) ?_
  refine S.sil 21 rfl rfl (fun _ hF => .extract (lk 0 rfl rfl) rfl) ?_
  refine S.sil 22 rfl rfl (fun _ hF => .extract (lk 1 rfl rfl) rfl) ?_
  refine S.sil 5 rfl rfl (fun _ hF => .assign (lk 1 rfl rfl)) ?_
  refine S.sil 6 rfl rfl (fun _ hF => .assign (lk 1 rfl rfl)) ?_
  refine S.nil ?_
  refine thenQ_n ?_
  refine AWp.prune (.eq (lk 0 rfl rfl) rfl (.eq (lk 1 rfl rfl) rfl (.eq (lk 7 rfl rfl) rfl (.eq (lk 8 rfl rfl) rfl (.eq (lk 17 rfl rfl) rfl .nil))))) ?_
  refine AWp.seq ?_
  refine W.reg [0, 1, 2, 3, 4, 5, 6, 7, 8, 9, 10, 11, 12, 13, 14, 15, 16, 17, 18, 19, 20, 21, 22, 23, 24, 25, 26, 27, 28, 29, 30, 31, 32, 33, 34, 35, 36, 37, 38, 39] rfl ?_
  refine S.sil 23 rfl rfl (fun _ hF => .move (lk 2 rfl rfl)) ?_
  refine S.sil 24 rfl rfl (fun _ hF => .eql (lk 0 rfl rfl) cI) ?_
  refine S.sil 25 rfl rfl (fun _ hF => .move (lk 0 rfl rfl)) ?_
  refine S.gsil 26 2 25 true rfl rfl rfl (lk 0 rfl rfl) (fun hB _ hF => .move (lk 6 rfl rfl)) ?_
  refine S.gsil 27 2 25 true rfl rfl rfl (lk 1 rfl rfl) (fun hB _ hF => .lenT sli49 (ifT hB (lk 0 rfl rfl)) (vsub rfl (.refl _))) ?_
  refine S.gsil 28 2 25 true rfl rfl rfl (lk 2 rfl rfl) (fun hB _ hF => .eql (ifT hB (lk 0 rfl rfl)) cI) ?_
  refine S.sil 29 rfl rfl (fun _ hF => .pickAnd (lk 3 rfl rfl) (fun h => ifT h (lk 0 rfl rfl)) cB) ?_
  refine S.sil 30 rfl rfl (fun _ hF => .move (lk 0 rfl rfl)) ?_
  refine S.gsil 31 7 30 true rfl rfl rfl (lk 0 rfl rfl) (fun hB _ hF => .move (lk 11 rfl rfl)) ?_
  obtain ⟨j5, m5, h⟩ := h.bnd
  refine S.gsil 32 7 30 true rfl rfl rfl (lk 1 rfl rfl) (fun hB _ hF => .ixS sli49 (ifT hB (lk 0 rfl rfl)) cI (gd_get m5 hB)) ?_
  refine S.gsil 33 7 30 true rfl rfl rfl (lk 2 rfl rfl) (fun hB _ hF => .fieldAddrC lay33 rfl rfl (ifT hB (lk 0 rfl rfl)) rfl (flL_c (show flen _ = 1 from rfl) (flL_c (show flen _ = 1 from rfl) (flL_c (show flen _ = 1 from rfl) flL_nil)))) ?_
  refine S.gsil 34 7 30 true rfl rfl rfl (lk 3 rfl rfl) (fun hB _ hF => .fieldAddrC lay28 rfl rfl (ifT hB (lk 0 rfl rfl)) rfl flL_nil) ?_
  refine S.gsil 35 7 30 true rfl rfl rfl (lk 4 rfl rfl) (fun hB _ hF => .loadC sz3 ag3 (ifT hB (lk 0 rfl rfl)) rfl rfl) ?_
  refine S.gsil 36 7 30 true rfl rfl rfl (lk 5 rfl rfl) (fun hB _ hF => .eql (ifT hB (lk 0 rfl rfl)) cI) ?_
  obtain ⟨v6, ev6, h⟩ := h.nam
  refine S.sil 37 rfl rfl (fun _ hF => .nv (.pickAnd (lk 6 rfl rfl) (fun h => ifT h (lk 0 rfl rfl)) cB) (congrArg V.bool ev6.symm)) ?_
  refine S.sil 38 rfl rfl (fun _ hF => .move (lk 0 rfl rfl)) ?_
  refine S.gsil 39 15 38 true rfl rfl rfl (lk 0 rfl rfl) (fun hB _ hF => .move (lk 19 rfl rfl)) ?_
  obtain ⟨j7, m7, h⟩ := h.bnd
  refine S.gsil 40 15 38 true rfl rfl rfl (lk 1 rfl rfl) (fun hB _ hF => .ixS sli49 (ifT hB (lk 0 rfl rfl)) cI (gd_get m7 hB)) ?_
  refine S.gsil 41 15 38 true rfl rfl rfl (lk 2 rfl rfl) (fun hB _ hF => .fieldAddrC lay33 rfl rfl (ifT hB (lk 0 rfl rfl)) rfl (flL_c (show flen _ = 1 from rfl) (flL_c (show flen _ = 1 from rfl) (flL_c (show flen _ = 1 from rfl) flL_nil)))) ?_
  refine S.gsil 42 15 38 true rfl rfl rfl (lk 3 rfl rfl) (fun hB _ hF => .fieldAddrC lay28 rfl rfl (ifT hB (lk 0 rfl rfl)) rfl flL_nil) ?_
  refine S.gsil 43 15 38 true rfl rfl rfl (lk 4 rfl rfl) (fun hB _ hF => .loadC sz3 ag3 (ifT hB (lk 0 rfl rfl)) rfl rfl) ?_
  refine S.gsil 44 15 38 true rfl rfl rfl (lk 5 rfl rfl) (fun hB _ hF => .eql (ifT hB (lk 0 rfl rfl)) cI) ?_
  refine S.sil 45 rfl rfl (fun _ hF => .pickAnd (lk 6 rfl rfl) (fun h => ifT h (lk 0 rfl rfl)) cB) ?_
  refine S.sil 46 rfl rfl (fun _ hF => .move (lk 0 rfl rfl)) ?_
  refine S.gsil 47 23 46 true rfl rfl rfl (lk 0 rfl rfl) (fun hB _ hF => .move (lk 27 rfl rfl)) ?_
  obtain ⟨j8, m8, h⟩ := h.bnd
  refine S.gsil 48 23 46 true rfl rfl rfl (lk 1 rfl rfl) (fun hB _ hF => .ixS sli49 (ifT hB (lk 0 rfl rfl)) cI (gd_get m8 hB)) ?_
  refine S.gsil 49 23 46 true rfl rfl rfl (lk 2 rfl rfl) (fun hB _ hF => .fieldAddrC lay33 rfl rfl (ifT hB (lk 0 rfl rfl)) rfl (flL_c (show flen _ = 1 from rfl) (flL_c (show flen _ = 1 from rfl) (flL_c (show flen _ = 1 from rfl) flL_nil)))) ?_
  refine S.gsil 50 23 46 true rfl rfl rfl (lk 3 rfl rfl) (fun hB _ hF => .fieldAddrC lay28 rfl rfl (ifT hB (lk 0 rfl rfl)) rfl (flL_c (show flen _ = 1 from rfl) (flL_c (show flen _ = 1 from rfl) flL_nil))) ?_
  refine S.gsil 51 23 46 true rfl rfl rfl (lk 4 rfl rfl) (fun hB _ hF => .loadC sz3 ag3 (ifT hB (lk 0 rfl rfl)) rfl rfl) ?_
  refine S.gsil 52 23 46 true rfl rfl rfl (lk 5 rfl rfl) (fun hB _ hF => .eql (ifT hB (lk 0 rfl rfl)) cI) ?_
  obtain ⟨v9, ev9, h⟩ := h.nam
  refine S.sil 53 rfl rfl (fun _ hF => .nv (.pickAnd (lk 6 rfl rfl) (fun h => ifT h (lk 0 rfl rfl)) cB) (congrArg V.bool ev9.symm)) ?_
  refine S.sil 54 rfl rfl (fun _ hF => .move (lk 0 rfl rfl)) ?_
  refine S.gsil 55 31 54 true rfl rfl rfl (lk 0 rfl rfl) (fun hB _ hF => .move (lk 33 rfl rfl)) ?_
  refine S.gsil 56 31 54 true rfl rfl rfl (lk 1 rfl rfl) (fun hB _ hF => .eql (ifT hB (lk 0 rfl rfl)) cI) ?_
  refine S.sil 57 rfl rfl (fun _ hF => .pickAnd (lk 2 rfl rfl) (fun h => ifT h (lk 0 rfl rfl)) cB) ?_
  refine S.sil 58 rfl rfl (fun _ hF => .move (lk 0 rfl rfl)) ?_
  refine S.gsil 59 35 58 true rfl rfl rfl (lk 0 rfl rfl) (fun hB _ hF => .move (lk 36 rfl rfl)) ?_
  refine S.gsil 60 35 58 true rfl rfl rfl (lk 1 rfl rfl) (fun hB _ hF => .eql (ifT hB (lk 0 rfl rfl)) cI) ?_
  refine S.sil 61 rfl rfl (fun _ hF => .pickAnd (lk 2 rfl rfl) (fun h => ifT h (lk 0 rfl rfl)) cB) ?_
  obtain ⟨v10, ev10, h⟩ := h.nam
  refine S.sil 0 rfl rfl (fun _ hF => .nv (.assign (lk 0 rfl rfl)) (congrArg V.bool ev10.symm)) ?_
  refine S.nil ?_
  refine thenQ_n ?_
  refine AWp.prune (.eq (lk 0 rfl rfl) rfl .nil) ?_
  refine AWp.ret ?_
  obtain rfl := h.ret
  exact endF1 rfl (Wk.selS [] .nil rfl (SelE.leaf (lk 0 rfl rfl) rfl (.refl _) (fun m => (TyOk.bool.lt _ _)) .nil) .nil) (.tmp (lk 0 rfl rfl) rfl) rfl rfl
theorem C_usufructlaw13_own {a1 : List TField} {r : (List TField)} (h : usufructlaw13_own a1 = some r) : PureC Pg 23 [.sl 587 .no (List.map E_TField a1)] (E_S_TField r) := by
  refine PureC.ofF (CallSpec.of_bodyF 23 0 fn23 rfl rfl rfl (Nat.le_of_ble_eq_true rfl) ?_) (ltL_c (lt_sl rfl (ty_TField.ltm _ _)) ltL_nil) (ty_S_TField.lt _ _)
  replace h := Ok.of h
  unfold usufructlaw13_own at h
  refine AWp.seq ?_
  refine W.reg [0] rfl ?_
  refine S.sil 2 rfl rfl (fun _ hF => .assign cNs) ?_
  refine S.nil ?_
  refine thenQ_n ?_
  refine AWp.seq ?_
  refine W.reg [0] rfl ?_
  refine S.sil 3 rfl rfl (fun _ hF => .assign cNs) ?_
  refine S.nil ?_
  refine thenQ_n ?_
  refine AWp.seq ?_
  refine AWp.seq ?_
  refine W.reg [0, 1, 2] rfl ?_
  refine S.sil 6 rfl rfl (fun _ hF => .move (lk 2 rfl rfl)) ?_
  refine S.sil 7 rfl rfl (fun _ hF => .lenT sli49 (lk 0 rfl rfl) (vsub rfl (.refl _))) ?_
  refine S.sil 8 rfl rfl (fun _ hF => .move cI) ?_
  refine S.nil ?_
  refine thenQ_n ?_
  refine AWp.cutX (fun x4 => ⟨[(3, .sl 587 (.tok 0) (List.map E_TField x4)), (2, .nils)], [.tail]⟩) nc_then h (fun q2 hq2 => ?_) (fun x4 h => ?_)
  · refine AWp.block ?_
    refine AWp.loopT (fun s3 => ⟨[(8, (V.int .i64) s3.1), (7, (V.int .i64) (a1.length : Int)), (6, .sl 587 .no (List.map E_TField a1)), (3, .sl 587 (.tok 0) (List.map E_TField s3.2)), (2, .nils)], [.tail]⟩) hq2 (Wk.vacant.trans (Wk.selS [0] (by decide) rfl (SelE.leaf (lk 0 rfl rfl) rfl (.refl _) (fun m => ((TyOk.int .i64).lt _ _)) (SelE.leaf (lk 1 rfl rfl) rfl (.refl _) (fun m => ((TyOk.int .i64).lt _ _)) (SelE.leaf (lk 2 rfl rfl) rfl (.refl _) (fun m => (lt_sl rfl (ty_TField.ltm _ _))) (SelE.spec (lk 3 rfl rfl) rfl (.nils_tok _ _) (ren_sl ty_TField _) (lt_sl rfl (ty_TField.ltm _ _)) (SelE.leaf (lk 4 rfl rfl) rfl (.refl _) (fun m => rfl) .nil))))) (.cons rfl rfl trivial .nil))) (fun _ s3 h2 => ?_)
    rw [usufructlaw13_own_L1] at h2
    refine AWp.seq ?_
    refine W.reg [0] rfl ?_
    refine S.sil 9 rfl rfl (fun _ hF => .lss (lk 0 rfl rfl) (lk 1 rfl rfl)) ?_
    refine S.nil ?_
    refine thenQ_n ?_
    refine AWp.seq ?_
    refine AWp.condM (lk 0 rfl rfl) h2 (fun c1 h2 => ?_) (fun c1 h2 => ?_)
    · skip
      refine AWp.skip ?_
      refine thenQ_n ?_
      refine AWp.seq ?_
      refine AWp.block ?_
      refine AWp.seq ?_
      refine W.reg [0, 1, 2, 3] rfl ?_
      obtain ⟨j5, m5, h2⟩ := h2.bnd
      refine S.sil 10 rfl rfl (fun _ hF => .ixS sli49 (lk 3 rfl rfl) (lk 1 rfl rfl) m5) ?_
      obtain ⟨v6, ev6, h2⟩ := h2.nam
      refine S.sil 11 rfl rfl (fun _ hF => .nv (.loadC sz33 ag33 (lk 0 rfl rfl) (ty_TField.fl (a1.getD j5 default)) rfl) (congrArg E_TField ev6.symm)) ?_
      refine S.eff 5 rfl rfl (.nf (v2 := .ptr 1 [] 0) (H2 := [.tail, .cells (.st [V.str (default : ByteArray), (V.int .i64) 0, (V.int .i64) 0, E_TCounter (default : TCounter), E_TLock (default : TLock), .nils])]) (.alloc zv33) rfl rfl) trivial ?_
      refine S.effN rfl rfl (.nf (H2 := [.tail, .cells (E_TField v6)]) (.storeP sz33 (lk 0 rfl rfl) (lk 1 rfl rfl) rfl (.refl _) rfl .nil (by first | rfl | omega) .nil (ty_TField.fl v6) (fl_st (flL_c (show flen _ = 1 from rfl) (flL_c (show flen _ = 1 from rfl) (flL_c (show flen _ = 1 from rfl) (flL_c (ty_TCounter.fl (default : TCounter)) (flL_c (ty_TLock.fl (default : TLock)) (flL_c (show flen _ = 1 from rfl) flL_nil))))))) rfl) rfl rfl) trivial ?_
      refine S.nil ?_
      refine thenQ_n ?_
      refine AWp.seq ?_
      refine W.reg [0, 1, 2, 3, 4, 5] rfl ?_
      refine S.sil 12 rfl rfl (fun _ hF => .buildSliceW sli31 zv66 rfl rfl (by decide) .nil) ?_
      refine S.sil 13 rfl rfl (fun _ hF => .fieldAddr lay33 rfl rfl (lk 1 rfl rfl)) ?_
      refine S.qui 14 rfl rfl (fun _ => .loadP sz31 ag31 (lk 0 rfl rfl) rfl (.st rfl (flL_c (show flen _ = 1 from rfl) (flL_c (show flen _ = 1 from rfl) (flL_c (show flen _ = 1 from rfl) (flL_c (ty_TCounter.fl v6.Counter) (flL_c (ty_TLock.fl v6.Lock) flL_nil))))) .nil) (by first | rfl | omega) rfl rfl) ?_
      obtain ⟨l7, m7, h2⟩ := h2.bnd
      refine S.eff 15 rfl rfl (.nf (v2 := .sl 5 (.tok 2) (List.map E_THold l7)) (H2 := [.tail, .cells (E_TField v6), .tail]) (.appX sli31 und31 zv66 rfl (by decide) (lk 2 rfl rfl) (V.sub.refl _) (lk 0 rfl rfl) Rd.sl m7 rfl) rfl rfl) trivial ?_
      refine S.sil 16 rfl rfl (fun _ hF => .fieldAddr lay33 rfl rfl (lk 4 rfl rfl)) ?_
      obtain ⟨v8, ev8, h2⟩ := h2.nam
      refine S.effN rfl rfl (.nf (H2 := [.tail, .cells (E_TField v8), .tail]) (.storeP sz31 (lk 0 rfl rfl) (lk 1 rfl rfl) rfl (.forget _ _ _) rfl (.st rfl (flL_c (show flen _ = 1 from rfl) (flL_c (show flen _ = 1 from rfl) (flL_c (show flen _ = 1 from rfl) (flL_c (ty_TCounter.fl v6.Counter) (flL_c (ty_TLock.fl v6.Lock) flL_nil))))) .nil) (by first | rfl | omega) (.st rfl .nil rfl) rfl rfl (congrArg (fun z => ([.tail, AObj.cells (E_TField z), .tail] : List AObj)) ev8.symm)) rfl rfl) trivial ?_
      refine S.nil ?_
      refine thenQ_n ?_
      refine W.reg [0, 1, 2, 3, 4] rfl ?_
      refine S.sil 17 rfl rfl (fun _ hF => .move (lk 12 rfl rfl)) ?_
      refine S.qui 18 rfl rfl (fun _ => .loadP sz33 ag33 (lk 6 rfl rfl) rfl .nil (by first | rfl | omega) (ty_TField.fl v8) rfl) ?_
      refine S.sil 19 rfl rfl (fun _ hF => .buildSliceW sli49 zv33 rfl rfl (by decide) (.cons (lk 0 rfl rfl) rfl (.refl _) (ty_TField.fl v8) .nil)) ?_
      obtain ⟨l9, m9, h2⟩ := h2.bnd
      refine S.eff 20 rfl rfl (.nf (v2 := .sl 587 (.tok 3) (List.map E_TField l9)) (H2 := [.dead, .cells (E_TField v8), .tail, .tail]) (.appT sli49 und49 zv33 rfl (by decide) (lk 2 rfl rfl) rfl (lk 0 rfl rfl) Rd.sl m9 rfl) rfl rfl) trivial ?_
      refine S.sil 3 rfl rfl (fun _ hF => .assign (lk 0 rfl rfl)) ?_
      refine S.nil ?_
      refine blockQ_n ?_
      refine thenQ_n ?_
      refine W.reg [0, 1] rfl ?_
      refine S.sil 21 rfl rfl (fun _ hF => .add (lk 14 rfl rfl) cI) ?_
      refine S.sil 8 rfl rfl (fun _ hF => .move (lk 0 rfl rfl)) ?_
      refine S.nil ?_
      refine thenQ_n ?_
      exact ⟨_, h2.ret, (Wk.selS [3] (by decide) rfl (SelE.leaf (lk 0 rfl rfl) rfl (.refl _) (fun m => ((TyOk.int .i64).lt _ _)) (SelE.leaf (lk 17 rfl rfl) rfl (.refl _) (fun m => ((TyOk.int .i64).lt _ _)) (SelE.leaf (lk 18 rfl rfl) rfl (.refl _) (fun m => (lt_sl rfl (ty_TField.ltm _ _))) (SelE.spec (lk 2 rfl rfl) rfl (.refl _) (ren_sl ty_TField _) (lt_sl rfl (ty_TField.ltm _ _)) (SelE.leaf (lk 20 rfl rfl) rfl (.refl _) (fun m => rfl) .nil))))) (.cons rfl rfl trivial .nil))⟩
    · skip
      refine AWp.exit ?_
      refine thenQ_x ?_
      refine thenQ_x ?_
      refine blockQ_x ?_
      refine thenQ_n ?_
      exact ⟨_, h2.ret, (Wk.selS [0] (by decide) rfl (SelE.spec (lk 4 rfl rfl) rfl (.refl _) (ren_sl ty_TField _) (lt_sl rfl (ty_TField.ltm _ _)) (SelE.leaf (lk 5 rfl rfl) rfl (.refl _) (fun m => rfl) .nil)) (.cons rfl rfl trivial .nil))⟩
  · skip
    refine thenQ_n ?_
    refine AWp.seq ?_
    refine W.reg [0, 1] rfl ?_
    refine S.sil 22 rfl rfl (fun _ hF => .move (lk 0 rfl rfl)) ?_
    refine S.sil 2 rfl rfl (fun _ hF => .assign (lk 0 rfl rfl)) ?_
    refine S.nil ?_
    refine thenQ_n ?_
    refine AWp.ret ?_
    obtain rfl := h.ret
    exact endF1 rfl (Wk.selS [] .nil rfl (SelE.leaf (lk 0 rfl rfl) rfl (.forget _ _ _) (fun m => (ty_S_TField.lt _ _)) .nil) .nil) (.tmp (lk 0 rfl rfl) rfl) rfl rfl
theorem C_usufructlaw13_one {a1 : List TField} {a2 : ByteArray} {r : TField × Bool} (h : usufructlaw13_one a1 a2 = some r) : PureC Pg 24 [.sl 587 .no (List.map E_TField a1), V.str a2] (.tup [E_TField r.1, V.bool r.2]) := by
  refine PureC.ofF (CallSpec.of_bodyF 21 0 fn24 rfl rfl rfl (Nat.le_of_ble_eq_true rfl) ?_) (ltL_c (lt_sl rfl (ty_TField.ltm _ _)) (ltL_c (TyOk.str.lt _ _) ltL_nil)) (lt_tup (ltL_c (ty_TField.lt _ _) (ltL_c (TyOk.bool.lt _ _) ltL_nil)))
  replace h := Ok.of h
  unfold usufructlaw13_one at h
  refine AWp.seq ?_
  refine W.reg [0, 1] rfl ?_
  refine S.eff 4 rfl rfl (.nf (v2 := .ptr 0 [] 0) (H2 := [.cells (.st [V.str (default : ByteArray), (V.int .i64) 0, (V.int .i64) 0, E_TCounter (default : TCounter), E_TLock (default : TLock), .nils])]) (.alloc zv33) rfl rfl) trivial ?_
  refine S.sil 5 rfl rfl (fun _ hF => .assign cB) ?_
  refine S.nil ?_
  refine thenQ_n ?_
  refine AWp.seq ?_
  refine AWp.seq ?_
  refine W.reg [0, 1, 2] rfl ?_
  refine S.sil 8 rfl rfl (fun _ hF => .move (lk 2 rfl rfl)) ?_
  refine S.sil 9 rfl rfl (fun _ hF => .lenT sli49 (lk 0 rfl rfl) (vsub rfl (.refl _))) ?_
  refine S.sil 10 rfl rfl (fun _ hF => .move cI) ?_
  refine S.nil ?_
  refine thenQ_n ?_
  refine AWp.cutL (fun x5 => ⟨[(5, V.bool false), (4, .ptr 0 [] 0)], [.cells (E_TField (⟨(default : ByteArray), 0, 0, (default : TCounter), (default : TLock), ([] : List THold)⟩ : TField))]⟩) nc_then h (fun q3 hq3 h => ?_) (fun x5 h => ?_)
  · refine AWp.block ?_
    refine AWp.loopT (fun s4 => ⟨[(10, (V.int .i64) s4), (9, (V.int .i64) (a1.length : Int)), (8, .sl 587 .no (List.map E_TField a1)), (5, V.bool false), (4, .ptr 0 [] 0), (1, V.str a2)], [.cells (E_TField (⟨(default : ByteArray), 0, 0, (default : TCounter), (default : TLock), ([] : List THold)⟩ : TField))]⟩) hq3 (Wk.selS [0] (by decide) rfl (SelE.leaf (lk 0 rfl rfl) rfl (.refl _) (fun m => ((TyOk.int .i64).lt _ _)) (SelE.leaf (lk 1 rfl rfl) rfl (.refl _) (fun m => ((TyOk.int .i64).lt _ _)) (SelE.leaf (lk 2 rfl rfl) rfl (.refl _) (fun m => (lt_sl rfl (ty_TField.ltm _ _))) (SelE.leaf (lk 3 rfl rfl) rfl (.refl _) (fun m => (TyOk.bool.lt _ _)) (SelE.spec (lk 4 rfl rfl) rfl (.refl _) rfl rfl (SelE.leaf (lk 6 rfl rfl) rfl (.refl _) (fun m => (TyOk.str.lt _ _)) .nil)))))) (.cons (lt_cells (ty_TField.lt _ _)) rfl (RSub.trans (.st (.cons (.refl _) (.cons (.refl _) (.cons (.refl _) (.cons (.refl _) (.cons (.refl _) (.cons (.nils_no _) .nil))))))) (.eq (ty_TField.cl _ (⟨(default : ByteArray), 0, 0, (default : TCounter), (default : TLock), ([] : List THold)⟩ : TField)).symm)) .nil)) (fun _ s4 h3 => ?_)
    rw [usufructlaw13_one_L1] at h3
    refine AWp.seq ?_
    refine W.reg [0] rfl ?_
    refine S.sil 11 rfl rfl (fun _ hF => .lss (lk 0 rfl rfl) (lk 1 rfl rfl)) ?_
    refine S.nil ?_
    refine thenQ_n ?_
    refine AWp.seq ?_
    refine AWp.condM (lk 0 rfl rfl) h3 (fun c1 h3 => ?_) (fun c1 h3 => ?_)
    · skip
      refine AWp.skip ?_
      refine thenQ_n ?_
      refine AWp.seq ?_
      refine AWp.block ?_
      refine AWp.seq ?_
      refine W.reg [0, 1, 2, 3] rfl ?_
      obtain ⟨j6, m6, h3⟩ := h3.bnd
      refine S.sil 12 rfl rfl (fun _ hF => .ixS sli49 (lk 3 rfl rfl) (lk 1 rfl rfl) m6) ?_
      obtain ⟨v7, ev7, h3⟩ := h3.nam
      refine S.sil 13 rfl rfl (fun _ hF => .nv (.loadC sz33 ag33 (lk 0 rfl rfl) (ty_TField.fl (a1.getD j6 default)) rfl) (congrArg E_TField ev7.symm)) ?_
      refine S.eff 7 rfl rfl (.nf (v2 := .ptr 1 [] 0) (H2 := [.cells (E_TField (⟨(default : ByteArray), 0, 0, (default : TCounter), (default : TLock), ([] : List THold)⟩ : TField)), .cells (.st [V.str (default : ByteArray), (V.int .i64) 0, (V.int .i64) 0, E_TCounter (default : TCounter), E_TLock (default : TLock), .nils])]) (.alloc zv33) rfl rfl) trivial ?_
      refine S.effN rfl rfl (.nf (H2 := [.cells (E_TField (⟨(default : ByteArray), 0, 0, (default : TCounter), (default : TLock), ([] : List THold)⟩ : TField)), .cells (E_TField v7)]) (.storeP sz33 (lk 0 rfl rfl) (lk 1 rfl rfl) rfl (.refl _) rfl .nil (by first | rfl | omega) .nil (ty_TField.fl v7) (fl_st (flL_c (show flen _ = 1 from rfl) (flL_c (show flen _ = 1 from rfl) (flL_c (show flen _ = 1 from rfl) (flL_c (ty_TCounter.fl (default : TCounter)) (flL_c (ty_TLock.fl (default : TLock)) (flL_c (show flen _ = 1 from rfl) flL_nil))))))) rfl) rfl rfl) trivial ?_
      refine S.nil ?_
      refine thenQ_n ?_
      refine AWp.wk (Wk.freeze 1 rfl rfl (.cons (lk 0 rfl rfl) rfl (.ptr .nil (by first | rfl | omega)) (.same (lk 1 rfl rfl) (.same (lk 2 rfl rfl) (.same (lk 3 rfl rfl) (.same (lk 4 rfl rfl) (.same (lk 5 rfl rfl) (.same (lk 6 rfl rfl) (.same (lk 7 rfl rfl) (.same (lk 8 rfl rfl) (.same (lk 9 rfl rfl) .nil)))))))))) (.refl _)) ?_
      refine AWp.seq ?_
      refine W.reg [0, 1, 2, 3] rfl ?_
      refine S.sil 14 rfl rfl (fun _ hF => .fieldAddrC lay33 rfl rfl (lk 0 rfl rfl) rfl flL_nil) ?_
      refine S.sil 15 rfl rfl (fun _ hF => .loadC sz9 ag9 (lk 0 rfl rfl) rfl rfl) ?_
      refine S.sil 16 rfl rfl (fun _ hF => .move (lk 11 rfl rfl)) ?_
      refine S.sil 17 rfl rfl (fun _ hF => .eqlS (lk 1 rfl rfl) (lk 0 rfl rfl)) ?_
      refine S.nil ?_
      refine thenQ_n ?_
      refine AWp.condM (lk 0 rfl rfl) h3 (fun c2 h3 => ?_) (fun c2 h3 => ?_)
      · skip
        refine AWp.seq ?_
        refine W.reg [0, 1, 2] rfl ?_
        refine S.sil 18 rfl rfl (fun _ hF => .loadC sz33 ag33 (lk 4 rfl rfl) (ty_TField.fl v7) rfl) ?_
        refine S.effN rfl rfl (.nf (H2 := [.cells (E_TField v7), .dead]) (.storeP sz33 (lk 13 rfl rfl) (lk 0 rfl rfl) rfl (.refl _) rfl .nil (by first | rfl | omega) .nil (ty_TField.fl v7) (ty_TField.fl (⟨(default : ByteArray), 0, 0, (default : TCounter), (default : TLock), ([] : List THold)⟩ : TField)) rfl) rfl rfl) trivial ?_
        refine S.sil 5 rfl rfl (fun _ hF => .assign cB) ?_
        refine S.nil ?_
        refine thenQ_n ?_
        refine AWp.ret ?_
        refine blockQ_r ?_
        refine thenQ_r ?_
        refine thenQ_r ?_
        refine blockQ_r ?_
        refine thenQ_r ?_
        refine thenQ_r ?_
        have h := Ok.inrq h h3.ret
        refine endF_wk (Wk.freeze 0 rfl rfl (.same (lk 0 rfl rfl) (.same (lk 0 rfl rfl) (.cons (lk 14 rfl rfl) rfl (.ptr .nil (by first | rfl | omega)) .nil))) (.refl _)) ?_
        obtain rfl := h.ret
        exact endFN rfl (Wk.selS [] .nil rfl (SelE.leaf (lk 2 rfl rfl) rfl (.refl _) (fun m => (lt_cptr (ty_TField.lt _ _))) (SelE.leaf (lk 0 rfl rfl) rfl (.refl _) (fun m => (TyOk.bool.lt _ _)) .nil)) .nil) (.cons (.cellC sz33 ag33 (lk 0 rfl rfl) (ty_TField.fl _) rfl) (.cons (.tmp (lk 1 rfl rfl) rfl) .nil)) rfl rfl rfl
      · skip
        refine AWp.skip ?_
        refine blockQ_n ?_
        refine thenQ_n ?_
        refine W.reg [0, 1] rfl ?_
        refine S.sil 19 rfl rfl (fun _ hF => .add (lk 8 rfl rfl) cI) ?_
        refine S.sil 10 rfl rfl (fun _ hF => .move (lk 0 rfl rfl)) ?_
        refine S.nil ?_
        refine thenQ_n ?_
        exact ⟨_, h3.ret, (Wk.selS [0] (by decide) rfl (SelE.leaf (lk 0 rfl rfl) rfl (.refl _) (fun m => ((TyOk.int .i64).lt _ _)) (SelE.leaf (lk 11 rfl rfl) rfl (.refl _) (fun m => ((TyOk.int .i64).lt _ _)) (SelE.leaf (lk 12 rfl rfl) rfl (.refl _) (fun m => (lt_sl rfl (ty_TField.ltm _ _))) (SelE.leaf (lk 13 rfl rfl) rfl (.refl _) (fun m => (TyOk.bool.lt _ _)) (SelE.spec (lk 14 rfl rfl) rfl (.refl _) rfl rfl (SelE.leaf (lk 15 rfl rfl) rfl (.refl _) (fun m => (TyOk.str.lt _ _)) .nil)))))) (.cons (lt_cells (ty_TField.lt _ _)) rfl (RSub.trans (.refl _) (.eq (ty_TField.cl _ (⟨(default : ByteArray), 0, 0, (default : TCounter), (default : TLock), ([] : List THold)⟩ : TField)).symm)) .nil))⟩
    · skip
      refine AWp.exit ?_
      refine thenQ_x ?_
      refine thenQ_x ?_
      refine blockQ_x ?_
      refine thenQ_n ?_
      exact ⟨_, h3.ret, (Wk.selS [0] (by decide) rfl (SelE.leaf (lk 4 rfl rfl) rfl (.refl _) (fun m => (TyOk.bool.lt _ _)) (SelE.spec (lk 5 rfl rfl) rfl (.refl _) rfl rfl .nil)) (.cons (lt_cells (ty_TField.lt _ _)) rfl (RSub.trans (.refl _) (.eq (ty_TField.cl _ (⟨(default : ByteArray), 0, 0, (default : TCounter), (default : TLock), ([] : List THold)⟩ : TField)).symm)) .nil))⟩
  · skip
    refine thenQ_n ?_
    refine AWp.seq ?_
    refine W.reg [0, 1, 2] rfl ?_
    obtain ⟨v8, ev8, h⟩ := h.nam
    refine S.sil 20 rfl rfl (fun _ hF => .nv (.vs (v := .st [V.str (default : ByteArray), (V.int .i64) 0, (V.int .i64) 0, E_TCounter (default : TCounter), E_TLock (default : TLock), .nils]) (v2 := E_TField (⟨(default : ByteArray), 0, 0, (default : TCounter), (default : TLock), ([] : List THold)⟩ : TField)) (.buildStW lay33 zv33 rfl .nil) rfl (.st (.cons (.refl _) (.cons (.refl _) (.cons (.refl _) (.cons (.refl _) (.cons (.refl _) (.cons (.nils_no _) .nil)))))))) (congrArg E_TField ev8.symm)) ?_
    refine S.effN rfl rfl (.nf (H2 := [.cells (E_TField v8)]) (.storeP sz33 (lk 2 rfl rfl) (lk 0 rfl rfl) rfl (.refl _) rfl .nil (by first | rfl | omega) .nil (ty_TField.fl v8) (ty_TField.fl (⟨(default : ByteArray), 0, 0, (default : TCounter), (default : TLock), ([] : List THold)⟩ : TField)) rfl) rfl rfl) trivial ?_
    refine S.sil 5 rfl rfl (fun _ hF => .assign cB) ?_
    refine S.nil ?_
    refine thenQ_n ?_
    refine AWp.ret ?_
    refine endF_wk (Wk.freeze 0 rfl rfl (.same (lk 0 rfl rfl) (.same (lk 0 rfl rfl) (.cons (lk 3 rfl rfl) rfl (.ptr .nil (by first | rfl | omega)) .nil))) (.refl _)) ?_
    obtain rfl := h.ret
    exact endFN rfl (Wk.selS [] .nil rfl (SelE.leaf (lk 2 rfl rfl) rfl (.refl _) (fun m => (lt_cptr (ty_TField.lt _ _))) (SelE.leaf (lk 0 rfl rfl) rfl (.refl _) (fun m => (TyOk.bool.lt _ _)) .nil)) .nil) (.cons (.cellC sz33 ag33 (lk 0 rfl rfl) (ty_TField.fl _) rfl) (.cons (.tmp (lk 1 rfl rfl) rfl) .nil)) rfl rfl rfl
theorem C_usufructref01_Is {a1 : Int} {r : Bool} (h : usufructref01_Is a1 = some r) : PureC Pg 40 [(V.int .i64) a1] (V.bool r) := by
  refine PureC.ofF (CallSpec.of_bodyF 9 0 fn40 rfl rfl rfl (Nat.le_of_ble_eq_true rfl) ?_) (ltL_c ((TyOk.int .i64).lt _ _) ltL_nil) (TyOk.bool.lt _ _)
  replace h := Ok.of h
  unfold usufructref01_Is at h
  refine AWp.seq ?_
  refine W.reg [0] rfl ?_
  refine S.sil 2 rfl rfl (fun _ hF => .assign cB) ?_
  refine S.nil ?_
  refine thenQ_n ?_
  refine AWp.seq ?_
  refine W.reg [0, 1, 2, 3, 4, 5, 6] rfl ?_
  refine S.sil 3 rfl rfl (fun _ hF => .move (lk 1 rfl rfl)) ?_
  refine S.sil 4 rfl rfl (fun _ hF => .leq (lk 0 rfl rfl) cI) ?_
  refine S.sil 5 rfl rfl (fun _ hF => .move (lk 0 rfl rfl)) ?_
  refine S.gsil 6 2 5 true rfl rfl rfl (lk 0 rfl rfl) (fun hB _ hF => .move (lk 4 rfl rfl)) ?_
  refine S.gsil 7 2 5 true rfl rfl rfl (lk 1 rfl rfl) (fun hB _ hF => .geq (ifT hB (lk 0 rfl rfl)) cI) ?_
  refine S.sil 8 rfl rfl (fun _ hF => .pickAnd (lk 2 rfl rfl) (fun h => ifT h (lk 0 rfl rfl)) cB) ?_
  obtain ⟨v2, ev2, h⟩ := h.nam
  refine S.sil 2 rfl rfl (fun _ hF => .nv (.assign (lk 0 rfl rfl)) (congrArg V.bool ev2.symm)) ?_
  refine S.nil ?_
  refine thenQ_n ?_
  refine AWp.ret ?_
  obtain rfl := h.ret
  exact endF1 rfl (Wk.selS [] .nil rfl (SelE.leaf (lk 0 rfl rfl) rfl (.refl _) (fun m => (TyOk.bool.lt _ _)) .nil) .nil) (.tmp (lk 0 rfl rfl) rfl) rfl rfl
theorem C_usufructref01_Add {a1 : Int} {a2 : Int} {r : Int × Int} (h : usufructref01_Add a1 a2 = some r) : PureC Pg 80 [(V.int .i64) a1, (V.int .i64) a2] (.tup [(V.int .i64) r.1, (V.int .i64) r.2]) := by
  refine PureC.ofF (CallSpec.of_bodyF 24 0 fn80 rfl rfl rfl (Nat.le_of_ble_eq_true rfl) ?_) (ltL_c ((TyOk.int .i64).lt _ _) (ltL_c ((TyOk.int .i64).lt _ _) ltL_nil)) (lt_tup (ltL_c ((TyOk.int .i64).lt _ _) (ltL_c ((TyOk.int .i64).lt _ _) ltL_nil)))
  replace h := Ok.of h
  unfold usufructref01_Add at h
  refine AWp.seq ?_
  refine W.reg [0, 1] rfl ?_
  refine S.sil 4 rfl rfl (fun _ hF => .assign cI) ?_
  refine S.sil 5 rfl rfl (fun _ hF => .assign cI) ?_
  refine S.nil ?_
  refine thenQ_n ?_
  refine AWp.seq ?_
  refine AWp.seq ?_
  refine W.reg [0, 1, 2, 3, 4, 5, 6, 7, 8, 9, 10, 11, 12, 13, 14] rfl ?_
  refine S.sil 6 rfl rfl (fun _ hF => .move (lk 2 rfl rfl)) ?_
  obtain ⟨r3, m3, h⟩ := h.bnd
  refine S.sil 7 rfl rfl (fun _ hF => .callQ ent40 cF (.c (lk 0 rfl rfl) (V.sub.refl _) .nil) (C_usufructref01_Is m3)) ?_
  refine S.sil 8 rfl rfl (fun _ hF => .not (lk 0 rfl rfl)) ?_
  refine S.sil 9 rfl rfl (fun _ hF => .move (lk 0 rfl rfl)) ?_
  refine S.gsil 10 3 9 false rfl rfl rfl (lk 0 rfl rfl) (fun hB _ hF => .move (lk 7 rfl rfl)) ?_
  obtain ⟨r4, m4, h⟩ := h.bnd
  refine S.gsil 11 3 9 false rfl rfl rfl (lk 1 rfl rfl) (fun hB _ hF => .callQ ent40 cF (.c (ifT hB (lk 0 rfl rfl)) (V.sub.refl _) .nil) (C_usufructref01_Is (gd_get m4 hB))) ?_
  refine S.gsil 12 3 9 false rfl rfl rfl (lk 2 rfl rfl) (fun hB _ hF => .not (ifT hB (lk 0 rfl rfl))) ?_
  refine S.sil 13 rfl rfl (fun _ hF => .pickOr (lk 3 rfl rfl) cB (fun h => ifT h (lk 0 rfl rfl))) ?_
  refine S.sil 14 rfl rfl (fun _ hF => .move (lk 0 rfl rfl)) ?_
  refine S.gsil 15 8 14 false rfl rfl rfl (lk 0 rfl rfl) (fun hB _ hF => .move (lk 11 rfl rfl)) ?_
  refine S.gsil 16 8 14 false rfl rfl rfl (lk 1 rfl rfl) (fun hB _ hF => .move (lk 13 rfl rfl)) ?_
  refine S.gsil 17 8 14 false rfl rfl rfl (lk 2 rfl rfl) (fun hB _ hF => .add (ifT hB (lk 1 rfl rfl)) (ifT hB (lk 0 rfl rfl))) ?_
  obtain ⟨r5, m5, h⟩ := h.bnd
  refine S.gsil 18 8 14 false rfl rfl rfl (lk 3 rfl rfl) (fun hB _ hF => .callQ ent40 cF (.c (ifT hB (lk 0 rfl rfl)) (V.sub.refl _) .nil) (C_usufructref01_Is (gd_get m5 hB))) ?_
  refine S.gsil 19 8 14 false rfl rfl rfl (lk 4 rfl rfl) (fun hB _ hF => .not (ifT hB (lk 0 rfl rfl))) ?_
  refine S.sil 20 rfl rfl (fun _ hF => .pickOr (lk 5 rfl rfl) cB (fun h => ifT h (lk 0 rfl rfl))) ?_
  refine S.nil ?_
  refine thenQ_n ?_
  refine AWp.prune (.eq (lk 0 rfl rfl) rfl (.eq (lk 15 rfl rfl) rfl (.eq (lk 16 rfl rfl) rfl (.eq (lk 17 rfl rfl) rfl (.eq (lk 18 rfl rfl) rfl .nil))))) ?_
  refine AWp.condM (lk 0 rfl rfl) h (fun c1 h => ?_) (fun c1 h => ?_)
  · skip
    refine AWp.seq ?_
    refine W.reg [0, 1] rfl ?_
    refine S.sil 4 rfl rfl (fun _ hF => .assign cI) ?_
    refine S.sil 5 rfl rfl (fun _ hF => .assign cI) ?_
    refine S.nil ?_
    refine thenQ_n ?_
    refine AWp.ret ?_
    refine thenQ_r ?_
    obtain rfl := h.ret
    exact endFN rfl (Wk.selS [] .nil rfl (SelE.leaf (lk 1 rfl rfl) rfl (.refl _) (fun m => ((TyOk.int .i64).lt _ _)) (SelE.leaf (lk 0 rfl rfl) rfl (.refl _) (fun m => ((TyOk.int .i64).lt _ _)) .nil)) .nil) (.cons (.tmp (lk 0 rfl rfl) rfl) (.cons (.tmp (lk 1 rfl rfl) rfl) .nil)) rfl rfl rfl
  · skip
    refine AWp.skip ?_
    refine thenQ_n ?_
    refine AWp.seq ?_
    refine W.reg [0, 1, 2, 3, 4] rfl ?_
    refine S.sil 21 rfl rfl (fun _ hF => .move (lk 3 rfl rfl)) ?_
    refine S.sil 22 rfl rfl (fun _ hF => .move (lk 5 rfl rfl)) ?_
    refine S.sil 23 rfl rfl (fun _ hF => .add (lk 1 rfl rfl) (lk 0 rfl rfl)) ?_
    refine S.sil 4 rfl rfl (fun _ hF => .assign (lk 0 rfl rfl)) ?_
    refine S.sil 5 rfl rfl (fun _ hF => .assign cI) ?_
    refine S.nil ?_
    refine thenQ_n ?_
    refine AWp.ret ?_
    obtain rfl := h.ret
    exact endFN rfl (Wk.selS [] .nil rfl (SelE.leaf (lk 1 rfl rfl) rfl (.refl _) (fun m => ((TyOk.int .i64).lt _ _)) (SelE.leaf (lk 0 rfl rfl) rfl (.refl _) (fun m => ((TyOk.int .i64).lt _ _)) .nil)) .nil) (.cons (.tmp (lk 0 rfl rfl) rfl) (.cons (.tmp (lk 1 rfl rfl) rfl) .nil)) rfl rfl rfl
theorem C_usufructref01_Sum {a1 : List Int} {r : Int × Int} (h : usufructref01_Sum a1 = some r) : PureC Pg 103 [.sl 1 .no (List.map (V.int .i64) a1)] (.tup [(V.int .i64) r.1, (V.int .i64) r.2]) := by
  refine PureC.ofF (CallSpec.of_bodyF 28 0 fn103 rfl rfl rfl (Nat.le_of_ble_eq_true rfl) ?_) (ltL_c (lt_sl rfl ((TyOk.int .i64).ltm _ _)) ltL_nil) (lt_tup (ltL_c ((TyOk.int .i64).lt _ _) (ltL_c ((TyOk.int .i64).lt _ _) ltL_nil)))
  replace h := Ok.of h
  unfold usufructref01_Sum at h
  refine AWp.seq ?_
  refine W.reg [0, 1] rfl ?_
  refine S.sil 2 rfl rfl (fun _ hF => .assign cI) ?_
  refine S.sil 3 rfl rfl (fun _ hF => .assign cI) ?_
  refine S.nil ?_
  refine thenQ_n ?_
  refine AWp.seq ?_
  refine W.reg [0] rfl ?_
  refine S.sil 4 rfl rfl (fun _ hF => .assign cI) ?_
  refine S.nil ?_
  refine thenQ_n ?_
  refine AWp.seq ?_
  refine AWp.seq ?_
  refine W.reg [0] rfl ?_
  refine S.sil 5 rfl rfl (fun _ hF => .assign cI) ?_
  refine S.nil ?_
  refine thenQ_n ?_
  refine AWp.cutL (fun x4 => ⟨[(4, (V.int .i64) x4), (3, (V.int .i64) 0), (2, (V.int .i64) 0)], []⟩) nc_then h (fun q2 hq2 h => ?_) (fun x4 h => ?_)
  · refine AWp.block ?_
    refine AWp.loopT (fun s3 => ⟨[(5, (V.int .i64) s3.1), (4, (V.int .i64) s3.2), (3, (V.int .i64) 0), (2, (V.int .i64) 0), (0, .sl 1 .no (List.map (V.int .i64) a1))], []⟩) hq2 (Wk.selS [] (by decide) rfl (SelE.leaf (lk 0 rfl rfl) rfl (.refl _) (fun m => ((TyOk.int .i64).lt _ _)) (SelE.leaf (lk 1 rfl rfl) rfl (.refl _) (fun m => ((TyOk.int .i64).lt _ _)) (SelE.leaf (lk 2 rfl rfl) rfl (.refl _) (fun m => ((TyOk.int .i64).lt _ _)) (SelE.leaf (lk 3 rfl rfl) rfl (.refl _) (fun m => ((TyOk.int .i64).lt _ _)) (SelE.leaf (lk 4 rfl rfl) rfl (.refl _) (fun m => (lt_sl rfl ((TyOk.int .i64).ltm _ _))) .nil))))) .nil) (fun _ s3 h2 => ?_)
    rw [usufructref01_Sum_L1] at h2
    refine AWp.seq ?_
    refine AWp.seq ?_
    refine W.reg [0, 1, 2, 3] rfl ?_
    refine S.sil 8 rfl rfl (fun _ hF => .move (lk 0 rfl rfl)) ?_
    refine S.sil 9 rfl rfl (fun _ hF => .move (lk 5 rfl rfl)) ?_
    refine S.sil 10 rfl rfl (fun _ hF => .lenT sli116 (lk 0 rfl rfl) (vsub rfl (.refl _))) ?_
    refine S.sil 11 rfl rfl (fun _ hF => .lss (lk 2 rfl rfl) (lk 0 rfl rfl)) ?_
    refine S.nil ?_
    refine thenQ_n ?_
    refine AWp.condM (lk 0 rfl rfl) h2 (fun c1 h2 => ?_) (fun c1 h2 => ?_)
    · skip
      refine AWp.skip ?_
      refine thenQ_n ?_
      refine AWp.seq ?_
      refine AWp.block ?_
      refine AWp.seq ?_
      refine W.reg [0, 1, 2, 3, 4, 5, 6, 7, 8, 9, 10] rfl ?_
      refine S.sil 15 rfl rfl (fun _ hF => .move (lk 5 rfl rfl)) ?_
      refine S.sil 16 rfl rfl (fun _ hF => .move (lk 9 rfl rfl)) ?_
      refine S.sil 17 rfl rfl (fun _ hF => .move (lk 6 rfl rfl)) ?_
      obtain ⟨j5, m5, h2⟩ := h2.bnd
      refine S.sil 18 rfl rfl (fun _ hF => .ixS sli116 (lk 1 rfl rfl) (lk 0 rfl rfl) m5) ?_
      refine S.sil 19 rfl rfl (fun _ hF => .loadC sz3 ag3 (lk 0 rfl rfl) rfl rfl) ?_
      obtain ⟨r6, m6, h2⟩ := h2.bnd
      refine S.sil 20 rfl rfl (fun _ hF => .callQ ent80 cF (.c (lk 4 rfl rfl) (V.sub.refl _) (.c (lk 0 rfl rfl) (V.sub.refl _) .nil)) (C_usufructref01_Add m6)) ?_
      refine S.sil 14 rfl rfl (fun _ hF => .move (lk 0 rfl rfl)) ?_
      refine S.sil 21 rfl rfl (fun _ hF => .extract (lk 0 rfl rfl) rfl) ?_
      refine S.sil 22 rfl rfl (fun _ hF => .extract (lk 1 rfl rfl) rfl) ?_
      refine S.sil 6 rfl rfl (fun _ hF => .assign (lk 1 rfl rfl)) ?_
      refine S.sil 7 rfl rfl (fun _ hF => .assign (lk 1 rfl rfl)) ?_
      refine S.nil ?_
      refine thenQ_n ?_
      refine AWp.seq ?_
      refine AWp.seq ?_
      refine W.reg [0, 1] rfl ?_
      refine S.sil 23 rfl rfl (fun _ hF => .move (lk 0 rfl rfl)) ?_
      refine S.sil 24 rfl rfl (fun _ hF => .neq (lk 0 rfl rfl) cI) ?_
      refine S.nil ?_
      refine thenQ_n ?_
      refine AWp.condM (lk 0 rfl rfl) h2 (fun c2 h2 => ?_) (fun c2 h2 => ?_)
      · skip
        refine AWp.seq ?_
        refine W.reg [0, 1, 2] rfl ?_
        refine S.sil 25 rfl rfl (fun _ hF => .move (lk 2 rfl rfl)) ?_
        refine S.sil 2 rfl rfl (fun _ hF => .assign cI) ?_
        refine S.sil 3 rfl rfl (fun _ hF => .assign (lk 1 rfl rfl)) ?_
        refine S.nil ?_
        refine thenQ_n ?_
        refine AWp.ret ?_
        refine thenQ_r ?_
        refine blockQ_r ?_
        refine thenQ_r ?_
        refine thenQ_r ?_
        refine blockQ_r ?_
        refine thenQ_r ?_
        refine thenQ_r ?_
        have h := Ok.inrq h h2.ret
        obtain rfl := h.ret
        exact endFN rfl (Wk.selS [] .nil rfl (SelE.leaf (lk 1 rfl rfl) rfl (.refl _) (fun m => ((TyOk.int .i64).lt _ _)) (SelE.leaf (lk 0 rfl rfl) rfl (.refl _) (fun m => ((TyOk.int .i64).lt _ _)) .nil)) .nil) (.cons (.tmp (lk 0 rfl rfl) rfl) (.cons (.tmp (lk 1 rfl rfl) rfl) .nil)) rfl rfl rfl
      · skip
        refine AWp.skip ?_
        refine thenQ_n ?_
        refine W.reg [0, 1] rfl ?_
        refine S.sil 26 rfl rfl (fun _ hF => .move (lk 3 rfl rfl)) ?_
        refine S.sil 4 rfl rfl (fun _ hF => .assign (lk 0 rfl rfl)) ?_
        refine S.nil ?_
        refine blockQ_n ?_
        refine thenQ_n ?_
        refine W.reg [0, 1, 2] rfl ?_
        refine S.sil 12 rfl rfl (fun _ hF => .move (lk 19 rfl rfl)) ?_
        refine S.sil 13 rfl rfl (fun _ hF => .add (lk 0 rfl rfl) cI) ?_
        refine S.sil 5 rfl rfl (fun _ hF => .assign (lk 0 rfl rfl)) ?_
        refine S.nil ?_
        refine thenQ_n ?_
        exact ⟨_, h2.ret, (Wk.selS [] (by decide) rfl (SelE.leaf (lk 0 rfl rfl) rfl (.refl _) (fun m => ((TyOk.int .i64).lt _ _)) (SelE.leaf (lk 3 rfl rfl) rfl (.refl _) (fun m => ((TyOk.int .i64).lt _ _)) (SelE.leaf (lk 24 rfl rfl) rfl (.refl _) (fun m => ((TyOk.int .i64).lt _ _)) (SelE.leaf (lk 25 rfl rfl) rfl (.refl _) (fun m => ((TyOk.int .i64).lt _ _)) (SelE.leaf (lk 26 rfl rfl) rfl (.refl _) (fun m => (lt_sl rfl ((TyOk.int .i64).ltm _ _))) .nil))))) .nil)⟩
    · skip
      refine AWp.exit ?_
      refine thenQ_x ?_
      refine thenQ_x ?_
      refine blockQ_x ?_
      refine thenQ_n ?_
      exact ⟨_, h2.ret, (Wk.selS [] (by decide) rfl (SelE.leaf (lk 5 rfl rfl) rfl (.refl _) (fun m => ((TyOk.int .i64).lt _ _)) (SelE.leaf (lk 6 rfl rfl) rfl (.refl _) (fun m => ((TyOk.int .i64).lt _ _)) (SelE.leaf (lk 7 rfl rfl) rfl (.refl _) (fun m => ((TyOk.int .i64).lt _ _)) .nil))) .nil)⟩
  · skip
    refine thenQ_n ?_
    refine AWp.seq ?_
    refine W.reg [0, 1, 2] rfl ?_
    refine S.sil 27 rfl rfl (fun _ hF => .move (lk 0 rfl rfl)) ?_
    refine S.sil 2 rfl rfl (fun _ hF => .assign (lk 0 rfl rfl)) ?_
    refine S.sil 3 rfl rfl (fun _ hF => .assign cI) ?_
    refine S.nil ?_
    refine thenQ_n ?_
    refine AWp.ret ?_
    obtain rfl := h.ret
    exact endFN rfl (Wk.selS [] .nil rfl (SelE.leaf (lk 1 rfl rfl) rfl (.refl _) (fun m => ((TyOk.int .i64).lt _ _)) (SelE.leaf (lk 0 rfl rfl) rfl (.refl _) (fun m => ((TyOk.int .i64).lt _ _)) .nil)) .nil) (.cons (.tmp (lk 0 rfl rfl) rfl) (.cons (.tmp (lk 1 rfl rfl) rfl) .nil)) rfl rfl rfl
theorem C_usufructref04_Value {a1 : TCounter} {r : Int × Int} (h : usufructref04_Value a1 = some r) : PureC Pg 53 [E_TCounter a1] (.tup [(V.int .i64) r.1, (V.int .i64) r.2]) := by
  refine PureC.ofF (CallSpec.of_bodyF 39 0 fn53 rfl rfl rfl (Nat.le_of_ble_eq_true rfl) ?_) (ltL_c (ty_TCounter.lt _ _) ltL_nil) (lt_tup (ltL_c ((TyOk.int .i64).lt _ _) (ltL_c ((TyOk.int .i64).lt _ _) ltL_nil)))
  replace h := Ok.of h
  unfold usufructref04_Value at h
  refine AWp.seq ?_
  refine W.reg [0, 1, 2] rfl ?_
  refine S.eff 1 rfl rfl (.nf (v2 := .ptr 0 [] 0) (H2 := [.cells (E_TCounter a1)]) (.box (lk 0 rfl rfl) rfl) rfl rfl) trivial ?_
  refine S.sil 2 rfl rfl (fun _ hF => .assign cI) ?_
  refine S.sil 3 rfl rfl (fun _ hF => .assign cI) ?_
  refine S.nil ?_
  refine thenQ_n ?_
  refine AWp.wk (Wk.freeze 0 rfl rfl (.same (lk 0 rfl rfl) (.same (lk 1 rfl rfl) (.cons (lk 2 rfl rfl) rfl (.ptr .nil (by first | rfl | omega)) .nil))) (.refl _)) ?_
  refine AWp.seq ?_
  refine W.reg [0, 1, 2, 3] rfl ?_
  refine S.sil 7 rfl rfl (fun _ hF => .fieldAddrC lay28 rfl rfl (lk 2 rfl rfl) rfl flL_nil) ?_
  refine S.sil 8 rfl rfl (fun _ hF => .loadC sz3 ag3 (lk 0 rfl rfl) rfl rfl) ?_
  refine S.sil 9 rfl rfl (fun _ hF => .buildSliceW sli116 zv3 rfl rfl (by decide) (.cons (lk 0 rfl rfl) rfl (.refl _) rfl .nil)) ?_
  refine S.sil 4 rfl rfl (fun _ hF => .assign (lk 0 rfl rfl)) ?_
  refine S.nil ?_
  refine thenQ_n ?_
  refine AWp.seq ?_
  refine AWp.seq ?_
  refine W.reg [0] rfl ?_
  refine S.sil 5 rfl rfl (fun _ hF => .assign cI) ?_
  refine S.nil ?_
  refine thenQ_n ?_
  refine AWp.cutX (fun x4 => ⟨[(4, .sl 1 (.tok 0) (List.map (V.int .i64) x4)), (3, (V.int .i64) 0), (2, (V.int .i64) 0), (1, .cptr (E_TCounter a1))], [.tail]⟩) nc_then h (fun q2 hq2 => ?_) (fun x4 h => ?_)
  · refine AWp.block ?_
    refine AWp.loopT (fun s3 => ⟨[(5, (V.int .i64) s3.1), (4, .sl 1 (.tok 0) (List.map (V.int .i64) s3.2)), (3, (V.int .i64) 0), (2, (V.int .i64) 0), (1, .cptr (E_TCounter a1))], [.tail]⟩) hq2 (Wk.vacant.trans (Wk.selS [1] (by decide) rfl (SelE.leaf (lk 0 rfl rfl) rfl (.refl _) (fun m => ((TyOk.int .i64).lt _ _)) (SelE.spec (lk 1 rfl rfl) rfl (.tok _ _ _) (ren_sl (TyOk.int .i64) _) (lt_sl rfl ((TyOk.int .i64).ltm _ _)) (SelE.leaf (lk 5 rfl rfl) rfl (.refl _) (fun m => ((TyOk.int .i64).lt _ _)) (SelE.leaf (lk 6 rfl rfl) rfl (.refl _) (fun m => ((TyOk.int .i64).lt _ _)) (SelE.leaf (lk 7 rfl rfl) rfl (.refl _) (fun m => (lt_cptr (ty_TCounter.lt _ _))) .nil))))) (.cons rfl rfl trivial .nil))) (fun _ s3 h2 => ?_)
    rw [usufructref04_Value_L1] at h2
    refine AWp.seq ?_
    refine AWp.seq ?_
    refine W.reg [0, 1] rfl ?_
    refine S.sil 10 rfl rfl (fun _ hF => .move (lk 0 rfl rfl)) ?_
    refine S.sil 11 rfl rfl (fun _ hF => .lss (lk 0 rfl rfl) cI) ?_
    refine S.nil ?_
    refine thenQ_n ?_
    refine AWp.condM (lk 0 rfl rfl) h2 (fun c1 h2 => ?_) (fun c1 h2 => ?_)
    · skip
      refine AWp.skip ?_
      refine thenQ_n ?_
      refine AWp.seq ?_
      refine AWp.block ?_
      refine W.reg [0, 1, 2, 3, 4, 5, 6, 7, 8] rfl ?_
      refine S.sil 14 rfl rfl (fun _ hF => .move (lk 3 rfl rfl)) ?_
      refine S.sil 15 rfl rfl (fun _ hF => .move (lk 3 rfl rfl)) ?_
      refine S.sil 16 rfl rfl (fun _ hF => .fieldAddrC lay28 rfl rfl (lk 8 rfl rfl) rfl (flL_c (show flen _ = 1 from rfl) (flL_c (show flen _ = 1 from rfl) (flL_c (show flen _ = 1 from rfl) (flL_c (ty_TRights.fl a1.Down) flL_nil))))) ?_
      refine S.sil 17 rfl rfl (fun _ hF => .fieldAddrC lay26 rfl rfl (lk 0 rfl rfl) rfl (flL_c (ty_A16_i64.fl a1.Up.Given) flL_nil)) ?_
      obtain ⟨k5, m5, h2⟩ := h2.bnd
      refine S.sil 18 rfl rfl (fun _ hF => .ixC arr23 (lk 0 rfl rfl) (lk 2 rfl rfl) m5) ?_
      refine S.sil 19 rfl rfl (fun _ hF => .loadC sz3 ag3 (lk 0 rfl rfl) rfl rfl) ?_
      refine S.sil 20 rfl rfl (fun _ hF => .buildSliceW sli116 zv3 rfl rfl (by decide) (.cons (lk 0 rfl rfl) rfl (.refl _) rfl .nil)) ?_
      obtain ⟨l6, m6, h2⟩ := h2.bnd
      refine S.eff 21 rfl rfl (.nf (v2 := .sl 1 (.tok 1) (List.map (V.int .i64) l6)) (H2 := [.dead, .tail]) (.appT sli116 und116 zv3 rfl (by decide) (lk 6 rfl rfl) rfl (lk 0 rfl rfl) Rd.sl m6 rfl) rfl rfl) trivial ?_
      refine S.sil 4 rfl rfl (fun _ hF => .assign (lk 0 rfl rfl)) ?_
      refine S.nil ?_
      refine blockQ_n ?_
      refine thenQ_n ?_
      refine W.reg [0, 1, 2] rfl ?_
      refine S.sil 12 rfl rfl (fun _ hF => .move (lk 11 rfl rfl)) ?_
      refine S.sil 13 rfl rfl (fun _ hF => .add (lk 0 rfl rfl) cI) ?_
      refine S.sil 5 rfl rfl (fun _ hF => .assign (lk 0 rfl rfl)) ?_
      refine S.nil ?_
      refine thenQ_n ?_
      exact ⟨_, h2.ret, (Wk.selS [1] (by decide) rfl (SelE.leaf (lk 0 rfl rfl) rfl (.refl _) (fun m => ((TyOk.int .i64).lt _ _)) (SelE.spec (lk 3 rfl rfl) rfl (.refl _) (ren_sl (TyOk.int .i64) _) (lt_sl rfl ((TyOk.int .i64).ltm _ _)) (SelE.leaf (lk 16 rfl rfl) rfl (.refl _) (fun m => ((TyOk.int .i64).lt _ _)) (SelE.leaf (lk 17 rfl rfl) rfl (.refl _) (fun m => ((TyOk.int .i64).lt _ _)) (SelE.leaf (lk 18 rfl rfl) rfl (.refl _) (fun m => (lt_cptr (ty_TCounter.lt _ _))) .nil))))) (.cons rfl rfl trivial .nil))⟩
    · skip
      refine AWp.exit ?_
      refine thenQ_x ?_
      refine thenQ_x ?_
      refine blockQ_x ?_
      refine thenQ_n ?_
      exact ⟨_, h2.ret, (Wk.selS [0] (by decide) rfl (SelE.spec (lk 3 rfl rfl) rfl (.refl _) (ren_sl (TyOk.int .i64) _) (lt_sl rfl ((TyOk.int .i64).ltm _ _)) (SelE.leaf (lk 4 rfl rfl) rfl (.refl _) (fun m => ((TyOk.int .i64).lt _ _)) (SelE.leaf (lk 5 rfl rfl) rfl (.refl _) (fun m => ((TyOk.int .i64).lt _ _)) (SelE.leaf (lk 6 rfl rfl) rfl (.refl _) (fun m => (lt_cptr (ty_TCounter.lt _ _))) .nil)))) (.cons rfl rfl trivial .nil))⟩
  · skip
    refine thenQ_n ?_
    refine AWp.seq ?_
    refine AWp.seq ?_
    refine W.reg [0] rfl ?_
    refine S.sil 6 rfl rfl (fun _ hF => .assign cI) ?_
    refine S.nil ?_
    refine thenQ_n ?_
    refine AWp.cutX (fun x9 => ⟨[(4, .sl 1 (.tok 0) (List.map (V.int .i64) x9)), (3, (V.int .i64) 0), (2, (V.int .i64) 0)], [.tail]⟩) nc_then h (fun q7 hq7 => ?_) (fun x9 h => ?_)
    · refine AWp.block ?_
      refine AWp.loopT (fun s8 => ⟨[(6, (V.int .i64) s8.1), (4, .sl 1 (.tok 0) (List.map (V.int .i64) s8.2)), (3, (V.int .i64) 0), (2, (V.int .i64) 0), (1, .cptr (E_TCounter a1))], [.tail]⟩) hq7 (Wk.selS [0] (by decide) rfl (SelE.leaf (lk 0 rfl rfl) rfl (.refl _) (fun m => ((TyOk.int .i64).lt _ _)) (SelE.spec (lk 1 rfl rfl) rfl (.refl _) (ren_sl (TyOk.int .i64) _) (lt_sl rfl ((TyOk.int .i64).ltm _ _)) (SelE.leaf (lk 2 rfl rfl) rfl (.refl _) (fun m => ((TyOk.int .i64).lt _ _)) (SelE.leaf (lk 3 rfl rfl) rfl (.refl _) (fun m => ((TyOk.int .i64).lt _ _)) (SelE.leaf (lk 4 rfl rfl) rfl (.refl _) (fun m => (lt_cptr (ty_TCounter.lt _ _))) .nil))))) (.cons rfl rfl trivial .nil)) (fun _ s8 h7 => ?_)
      rw [usufructref04_Value_L2] at h7
      refine AWp.seq ?_
      refine AWp.seq ?_
      refine W.reg [0, 1] rfl ?_
      refine S.sil 22 rfl rfl (fun _ hF => .move (lk 0 rfl rfl)) ?_
      refine S.sil 23 rfl rfl (fun _ hF => .lss (lk 0 rfl rfl) cI) ?_
      refine S.nil ?_
      refine thenQ_n ?_
      refine AWp.condM (lk 0 rfl rfl) h7 (fun c2 h7 => ?_) (fun c2 h7 => ?_)
      · skip
        refine AWp.skip ?_
        refine thenQ_n ?_
        refine AWp.seq ?_
        refine AWp.block ?_
        refine W.reg [0, 1, 2, 3, 4, 5, 6, 7, 8, 9] rfl ?_
        refine S.sil 26 rfl rfl (fun _ hF => .move (lk 3 rfl rfl)) ?_
        refine S.sil 27 rfl rfl (fun _ hF => .move (lk 3 rfl rfl)) ?_
        refine S.sil 28 rfl rfl (fun _ hF => .fieldAddrC lay28 rfl rfl (lk 8 rfl rfl) rfl (flL_c (show flen _ = 1 from rfl) (flL_c (show flen _ = 1 from rfl) (flL_c (show flen _ = 1 from rfl) flL_nil)))) ?_
        refine S.sil 29 rfl rfl (fun _ hF => .fieldAddrC lay26 rfl rfl (lk 0 rfl rfl) rfl (flL_c (ty_A16_i64.fl a1.Down.Given) flL_nil)) ?_
        obtain ⟨k10, m10, h7⟩ := h7.bnd
        refine S.sil 30 rfl rfl (fun _ hF => .ixC arr23 (lk 0 rfl rfl) (lk 2 rfl rfl) m10) ?_
        refine S.sil 31 rfl rfl (fun _ hF => .loadC sz3 ag3 (lk 0 rfl rfl) rfl rfl) ?_
        refine S.sil 32 rfl rfl (fun _ hF => .sub cI (lk 0 rfl rfl)) ?_
        refine S.sil 33 rfl rfl (fun _ hF => .buildSliceW sli116 zv3 rfl rfl (by decide) (.cons (lk 0 rfl rfl) rfl (.refl _) rfl .nil)) ?_
        obtain ⟨l11, m11, h7⟩ := h7.bnd
        refine S.eff 34 rfl rfl (.nf (v2 := .sl 1 (.tok 1) (List.map (V.int .i64) l11)) (H2 := [.dead, .tail]) (.appT sli116 und116 zv3 rfl (by decide) (lk 7 rfl rfl) rfl (lk 0 rfl rfl) Rd.sl m11 rfl) rfl rfl) trivial ?_
        refine S.sil 4 rfl rfl (fun _ hF => .assign (lk 0 rfl rfl)) ?_
        refine S.nil ?_
        refine blockQ_n ?_
        refine thenQ_n ?_
        refine W.reg [0, 1, 2] rfl ?_
        refine S.sil 24 rfl rfl (fun _ hF => .move (lk 12 rfl rfl)) ?_
        refine S.sil 25 rfl rfl (fun _ hF => .add (lk 0 rfl rfl) cI) ?_
        refine S.sil 6 rfl rfl (fun _ hF => .assign (lk 0 rfl rfl)) ?_
        refine S.nil ?_
        refine thenQ_n ?_
        exact ⟨_, h7.ret, (Wk.selS [1] (by decide) rfl (SelE.leaf (lk 0 rfl rfl) rfl (.refl _) (fun m => ((TyOk.int .i64).lt _ _)) (SelE.spec (lk 3 rfl rfl) rfl (.refl _) (ren_sl (TyOk.int .i64) _) (lt_sl rfl ((TyOk.int .i64).ltm _ _)) (SelE.leaf (lk 17 rfl rfl) rfl (.refl _) (fun m => ((TyOk.int .i64).lt _ _)) (SelE.leaf (lk 18 rfl rfl) rfl (.refl _) (fun m => ((TyOk.int .i64).lt _ _)) (SelE.leaf (lk 19 rfl rfl) rfl (.refl _) (fun m => (lt_cptr (ty_TCounter.lt _ _))) .nil))))) (.cons rfl rfl trivial .nil))⟩
      · skip
        refine AWp.exit ?_
        refine thenQ_x ?_
        refine thenQ_x ?_
        refine blockQ_x ?_
        refine thenQ_n ?_
        exact ⟨_, h7.ret, (Wk.selS [0] (by decide) rfl (SelE.spec (lk 3 rfl rfl) rfl (.refl _) (ren_sl (TyOk.int .i64) _) (lt_sl rfl ((TyOk.int .i64).ltm _ _)) (SelE.leaf (lk 4 rfl rfl) rfl (.refl _) (fun m => ((TyOk.int .i64).lt _ _)) (SelE.leaf (lk 5 rfl rfl) rfl (.refl _) (fun m => ((TyOk.int .i64).lt _ _)) .nil))) (.cons rfl rfl trivial .nil))⟩
    · skip
      refine thenQ_n ?_
      refine AWp.seq ?_
      refine W.reg [0, 1, 2, 3, 4, 5] rfl ?_
      refine S.sil 35 rfl rfl (fun _ hF => .move (lk 0 rfl rfl)) ?_
      obtain ⟨r12, m12, h⟩ := h.bnd
      refine S.sil 36 rfl rfl (fun _ hF => .callQ ent103 cF (.c (lk 0 rfl rfl) (vsub rfl (.forget _ _ _)) .nil) (C_usufructref01_Sum m12)) ?_
      refine S.sil 37 rfl rfl (fun _ hF => .extract (lk 0 rfl rfl) rfl) ?_
      refine S.sil 38 rfl rfl (fun _ hF => .extract (lk 1 rfl rfl) rfl) ?_
      refine S.sil 2 rfl rfl (fun _ hF => .assign (lk 1 rfl rfl)) ?_
      refine S.sil 3 rfl rfl (fun _ hF => .assign (lk 1 rfl rfl)) ?_
      refine S.nil ?_
      refine thenQ_n ?_
      refine AWp.ret ?_
      obtain rfl := h.ret
      exact endFN rfl (Wk.selS [] .nil rfl (SelE.leaf (lk 1 rfl rfl) rfl (.refl _) (fun m => ((TyOk.int .i64).lt _ _)) (SelE.leaf (lk 0 rfl rfl) rfl (.refl _) (fun m => ((TyOk.int .i64).lt _ _)) .nil)) .nil) (.cons (.tmp (lk 0 rfl rfl) rfl) (.cons (.tmp (lk 1 rfl rfl) rfl) .nil)) rfl rfl rfl
theorem C_usufructref07_View {a1 : TField} {r : Int × Int} (h : usufructref07_View a1 = some r) : PureC Pg 25 [E_TField a1] (.tup [(V.int .i64) r.1, (V.int .i64) r.2]) := by
  refine PureC.ofF (CallSpec.of_bodyF 18 0 fn25 rfl rfl rfl (Nat.le_of_ble_eq_true rfl) ?_) (ltL_c (ty_TField.lt _ _) ltL_nil) (lt_tup (ltL_c ((TyOk.int .i64).lt _ _) (ltL_c ((TyOk.int .i64).lt _ _) ltL_nil)))
  replace h := Ok.of h
  unfold usufructref07_View at h
  refine AWp.seq ?_
  refine W.reg [0, 1, 2] rfl ?_
  refine S.eff 1 rfl rfl (.nf (v2 := .ptr 0 [] 0) (H2 := [.cells (E_TField a1)]) (.box (lk 0 rfl rfl) rfl) rfl rfl) trivial ?_
  refine S.sil 2 rfl rfl (fun _ hF => .assign cI) ?_
  refine S.sil 3 rfl rfl (fun _ hF => .assign cI) ?_
  refine S.nil ?_
  refine thenQ_n ?_
  refine AWp.wk (Wk.freeze 0 rfl rfl (.same (lk 0 rfl rfl) (.same (lk 1 rfl rfl) (.cons (lk 2 rfl rfl) rfl (.ptr .nil (by first | rfl | omega)) .nil))) (.refl _)) ?_
  refine AWp.seq ?_
  refine AWp.seq ?_
  refine W.reg [0, 1, 2] rfl ?_
  refine S.sil 4 rfl rfl (fun _ hF => .fieldAddrC lay33 rfl rfl (lk 2 rfl rfl) rfl (flL_c (show flen _ = 1 from rfl) flL_nil)) ?_
  refine S.sil 5 rfl rfl (fun _ hF => .loadC sz3 ag3 (lk 0 rfl rfl) rfl rfl) ?_
  refine S.sil 6 rfl rfl (fun _ hF => .eql (lk 0 rfl rfl) cI) ?_
  refine S.nil ?_
  refine thenQ_n ?_
  refine AWp.condM (lk 0 rfl rfl) h (fun c1 h => ?_) (fun c1 h => ?_)
  · skip
    refine AWp.seq ?_
    refine W.reg [0, 1, 2, 3, 4, 5, 6] rfl ?_
    refine S.sil 7 rfl rfl (fun _ hF => .fieldAddrC lay33 rfl rfl (lk 5 rfl rfl) rfl (flL_c (show flen _ = 1 from rfl) (flL_c (show flen _ = 1 from rfl) (flL_c (show flen _ = 1 from rfl) flL_nil)))) ?_
    refine S.sil 8 rfl rfl (fun _ hF => .loadC sz28 ag28 (lk 0 rfl rfl) (ty_TCounter.fl a1.Counter) rfl) ?_
    obtain ⟨r2, m2, h⟩ := h.bnd
    refine S.sil 9 rfl rfl (fun _ hF => .callQ ent53 cF (.c (lk 0 rfl rfl) (V.sub.refl _) .nil) (C_usufructref04_Value m2)) ?_
    refine S.sil 10 rfl rfl (fun _ hF => .extract (lk 0 rfl rfl) rfl) ?_
    refine S.sil 11 rfl rfl (fun _ hF => .extract (lk 1 rfl rfl) rfl) ?_
    refine S.sil 2 rfl rfl (fun _ hF => .assign (lk 1 rfl rfl)) ?_
    refine S.sil 3 rfl rfl (fun _ hF => .assign (lk 1 rfl rfl)) ?_
    refine S.nil ?_
    refine thenQ_n ?_
    refine AWp.prune (.eq (lk 0 rfl rfl) rfl (.eq (lk 1 rfl rfl) rfl (.eq (lk 12 rfl rfl) rfl .nil))) ?_
    refine AWp.ret ?_
    refine thenQ_r ?_
    obtain rfl := h.ret
    exact endFN rfl (Wk.selS [] .nil rfl (SelE.leaf (lk 1 rfl rfl) rfl (.refl _) (fun m => ((TyOk.int .i64).lt _ _)) (SelE.leaf (lk 0 rfl rfl) rfl (.refl _) (fun m => ((TyOk.int .i64).lt _ _)) .nil)) .nil) (.cons (.tmp (lk 0 rfl rfl) rfl) (.cons (.tmp (lk 1 rfl rfl) rfl) .nil)) rfl rfl rfl
  · skip
    refine AWp.skip ?_
    refine thenQ_n ?_
    refine AWp.seq ?_
    refine AWp.seq ?_
    refine W.reg [0, 1, 2] rfl ?_
    refine S.sil 12 rfl rfl (fun _ hF => .fieldAddrC lay33 rfl rfl (lk 5 rfl rfl) rfl (flL_c (show flen _ = 1 from rfl) flL_nil)) ?_
    refine S.sil 13 rfl rfl (fun _ hF => .loadC sz3 ag3 (lk 0 rfl rfl) rfl rfl) ?_
    refine S.sil 14 rfl rfl (fun _ hF => .eql (lk 0 rfl rfl) cI) ?_
    refine S.nil ?_
    refine thenQ_n ?_
    refine AWp.condM (lk 0 rfl rfl) h (fun c2 h => ?_) (fun c2 h => ?_)
    · skip
      refine AWp.seq ?_
      refine W.reg [0, 1, 2, 3, 4] rfl ?_
      refine S.sil 15 rfl rfl (fun _ hF => .fieldAddrC lay33 rfl rfl (lk 8 rfl rfl) rfl (flL_c (show flen _ = 1 from rfl) (flL_c (show flen _ = 1 from rfl) (flL_c (show flen _ = 1 from rfl) (flL_c (ty_TCounter.fl a1.Counter) flL_nil))))) ?_
      refine S.sil 16 rfl rfl (fun _ hF => .fieldAddrC lay30 rfl rfl (lk 0 rfl rfl) rfl (flL_c (show flen _ = 1 from rfl) (flL_c (show flen _ = 1 from rfl) (flL_c (show flen _ = 1 from rfl) flL_nil)))) ?_
      refine S.sil 17 rfl rfl (fun _ hF => .loadC sz3 ag3 (lk 0 rfl rfl) rfl rfl) ?_
      refine S.sil 2 rfl rfl (fun _ hF => .assign (lk 0 rfl rfl)) ?_
      refine S.sil 3 rfl rfl (fun _ hF => .assign cI) ?_
      refine S.nil ?_
      refine thenQ_n ?_
      refine AWp.prune (.eq (lk 0 rfl rfl) rfl (.eq (lk 1 rfl rfl) rfl .nil)) ?_
      refine AWp.ret ?_
      refine thenQ_r ?_
      obtain rfl := h.ret
      exact endFN rfl (Wk.selS [] .nil rfl (SelE.leaf (lk 1 rfl rfl) rfl (.refl _) (fun m => ((TyOk.int .i64).lt _ _)) (SelE.leaf (lk 0 rfl rfl) rfl (.refl _) (fun m => ((TyOk.int .i64).lt _ _)) .nil)) .nil) (.cons (.tmp (lk 0 rfl rfl) rfl) (.cons (.tmp (lk 1 rfl rfl) rfl) .nil)) rfl rfl rfl
    · skip
      refine AWp.skip ?_
      refine thenQ_n ?_
      refine AWp.seq ?_
      refine W.reg [0, 1] rfl ?_
      refine S.sil 2 rfl rfl (fun _ hF => .assign cI) ?_
      refine S.sil 3 rfl rfl (fun _ hF => .assign cI) ?_
      refine S.nil ?_
      refine thenQ_n ?_
      refine AWp.ret ?_
      obtain rfl := h.ret
      exact endFN rfl (Wk.selS [] .nil rfl (SelE.leaf (lk 1 rfl rfl) rfl (.refl _) (fun m => ((TyOk.int .i64).lt _ _)) (SelE.leaf (lk 0 rfl rfl) rfl (.refl _) (fun m => ((TyOk.int .i64).lt _ _)) .nil)) .nil) (.cons (.tmp (lk 0 rfl rfl) rfl) (.cons (.tmp (lk 1 rfl rfl) rfl) .nil)) rfl rfl rfl
theorem C_usufructlaw13_PlanBounds {a1 : List TField} {a2 : TPlan} {a3 : Int} {a4 : Int} {r : Bool} (h : usufructlaw13_PlanBounds a1 a2 a3 a4 = some r) : PureC Pg 7 [.sl 587 .no (List.map E_TField a1), E_TPlan a2, (V.int .i64) a3, (V.int .i64) a4] (V.bool r) := by
  refine PureC.ofF (CallSpec.of_bodyF 222 0 fn7 rfl rfl rfl (Nat.le_of_ble_eq_true rfl) ?_) (ltL_c (lt_sl rfl (ty_TField.ltm _ _)) (ltL_c (ty_TPlan.lt _ _) (ltL_c ((TyOk.int .i64).lt _ _) (ltL_c ((TyOk.int .i64).lt _ _) ltL_nil)))) (TyOk.bool.lt _ _)
  replace h := Ok.of h
  unfold usufructlaw13_PlanBounds at h
  refine AWp.seq ?_
  refine W.reg [0, 1] rfl ?_
  refine S.eff 5 rfl rfl (.nf (v2 := .ptr 0 [] 0) (H2 := [.cells (E_TPlan a2)]) (.box (lk 1 rfl rfl) rfl) rfl rfl) trivial ?_
  refine S.sil 8 rfl rfl (fun _ hF => .assign cB) ?_
  refine S.nil ?_
  refine thenQ_n ?_
  refine AWp.wk (Wk.freeze 0 rfl rfl (.same (lk 0 rfl rfl) (.cons (lk 1 rfl rfl) rfl (.ptr .nil (by first | rfl | omega)) (.same (lk 2 rfl rfl) (.same (lk 4 rfl rfl) (.same (lk 5 rfl rfl) .nil))))) (.refl _)) ?_
  refine AWp.seq ?_
  refine AWp.seq ?_
  refine W.reg [0, 1, 2, 3, 4, 5, 6, 7, 8, 9, 10, 11, 12, 13, 14, 15, 16, 17, 18, 19] rfl ?_
  refine S.sil 25 rfl rfl (fun _ hF => .move (lk 2 rfl rfl)) ?_
  refine S.sil 26 rfl rfl (fun _ hF => .loadC sz51 ag51 (lk 2 rfl rfl) (ty_TPlan.fl a2) rfl) ?_
  obtain ⟨r5, m5, h⟩ := h.bnd
  refine S.sil 27 rfl rfl (fun _ hF => .callQ ent20 cF (.c (lk 1 rfl rfl) (V.sub.refl _) (.c (lk 0 rfl rfl) (V.sub.refl _) .nil)) (C_usufructlaw13_Few m5)) ?_
  refine S.sil 28 rfl rfl (fun _ hF => .not (lk 0 rfl rfl)) ?_
  refine S.sil 29 rfl rfl (fun _ hF => .move (lk 0 rfl rfl)) ?_
  refine S.gsil 30 4 29 false rfl rfl rfl (lk 0 rfl rfl) (fun hB _ hF => .move (lk 8 rfl rfl)) ?_
  refine S.gsil 31 4 29 false rfl rfl rfl (lk 1 rfl rfl) (fun hB _ hF => .lss (ifT hB (lk 0 rfl rfl)) cI) ?_
  refine S.sil 32 rfl rfl (fun _ hF => .pickOr (lk 2 rfl rfl) cB (fun h => ifT h (lk 0 rfl rfl))) ?_
  refine S.sil 33 rfl rfl (fun _ hF => .move (lk 0 rfl rfl)) ?_
  refine S.gsil 34 8 33 false rfl rfl rfl (lk 0 rfl rfl) (fun hB _ hF => .move (lk 12 rfl rfl)) ?_
  refine S.gsil 35 8 33 false rfl rfl rfl (lk 1 rfl rfl) (fun hB _ hF => .gtr (ifT hB (lk 0 rfl rfl)) cI) ?_
  obtain ⟨v6, ev6, h⟩ := h.nam
  refine S.sil 36 rfl rfl (fun _ hF => .nv (.pickOr (lk 2 rfl rfl) cB (fun h => ifT h (lk 0 rfl rfl))) (congrArg V.bool ev6.symm)) ?_
  refine S.sil 37 rfl rfl (fun _ hF => .move (lk 0 rfl rfl)) ?_
  refine S.gsil 38 12 37 false rfl rfl rfl (lk 0 rfl rfl) (fun hB _ hF => .move (lk 17 rfl rfl)) ?_
  refine S.gsil 39 12 37 false rfl rfl rfl (lk 1 rfl rfl) (fun hB _ hF => .lss (ifT hB (lk 0 rfl rfl)) cI) ?_
  refine S.sil 40 rfl rfl (fun _ hF => .pickOr (lk 2 rfl rfl) cB (fun h => ifT h (lk 0 rfl rfl))) ?_
  refine S.sil 41 rfl rfl (fun _ hF => .move (lk 0 rfl rfl)) ?_
  refine S.gsil 42 16 41 false rfl rfl rfl (lk 0 rfl rfl) (fun hB _ hF => .move (lk 21 rfl rfl)) ?_
  refine S.gsil 43 16 41 false rfl rfl rfl (lk 1 rfl rfl) (fun hB _ hF => .gtr (ifT hB (lk 0 rfl rfl)) cI) ?_
  obtain ⟨v7, ev7, h⟩ := h.nam
  refine S.sil 44 rfl rfl (fun _ hF => .nv (.pickOr (lk 2 rfl rfl) cB (fun h => ifT h (lk 0 rfl rfl))) (congrArg V.bool ev7.symm)) ?_
  refine S.nil ?_
  refine thenQ_n ?_
  refine AWp.prune (.eq (lk 0 rfl rfl) rfl (.eq (lk 20 rfl rfl) rfl (.eq (lk 21 rfl rfl) rfl (.eq (lk 22 rfl rfl) rfl (.eq (lk 23 rfl rfl) rfl (.eq (lk 24 rfl rfl) rfl .nil)))))) ?_
  refine AWp.condM (lk 0 rfl rfl) h (fun c1 h => ?_) (fun c1 h => ?_)
  · skip
    refine AWp.seq ?_
    refine W.reg [0, 1] rfl ?_
    obtain ⟨r8, m8, h⟩ := h.bnd
    refine S.sil 45 rfl rfl (fun _ hF => .callQ ent21 cF .nil (C_usufructlaw13_awake m8)) ?_
    refine S.sil 8 rfl rfl (fun _ hF => .assign (lk 0 rfl rfl)) ?_
    refine S.nil ?_
    refine thenQ_n ?_
    refine AWp.ret ?_
    refine thenQ_r ?_
    obtain rfl := h.ret
    exact endF1 rfl (Wk.selS [] .nil rfl (SelE.leaf (lk 0 rfl rfl) rfl (.refl _) (fun m => (TyOk.bool.lt _ _)) .nil) .nil) (.tmp (lk 0 rfl rfl) rfl) rfl rfl
  · skip
    refine AWp.skip ?_
    refine thenQ_n ?_
    refine AWp.seq ?_
    refine W.regD [0, 1, 2, 3, 4, 5, 6, 7, 8] mixed ?_
    refine S.sil 47 rfl rfl (fun _ hF => .move (lk 3 rfl rfl)) ?_
    obtain ⟨r9, m9, h⟩ := h.bnd
    refine S.sil 48 rfl rfl (fun _ hF => .callQ ent23 cF (.c (lk 0 rfl rfl) (V.sub.refl _) .nil) (C_usufructlaw13_own m9)) ?_
    refine S.sil 49 rfl rfl (fun _ hF => .loadC sz51 ag51 (lk 4 rfl rfl) (ty_TPlan.fl a2) rfl) ?_
    obtain ⟨r10, m10, h⟩ := h.bnd
    refine S.sil 50 rfl rfl (fun _ hF => .callQ ent22 cF (.c (lk 1 rfl rfl) (V.sub.refl _) (.c (lk 0 rfl rfl) (V.sub.refl _) .nil)) (C_plan_Apply m10)) ?_
    refine S.sil 46 rfl rfl (fun _ hF => .move (lk 0 rfl rfl)) ?_
    refine S.sil 51 rfl rfl (fun _ hF => .extract (lk 0 rfl rfl) rfl) ?_
    refine S.sil 52 rfl rfl (fun _ hF => .extract (lk 1 rfl rfl) rfl) ?_
    refine S.sil 9 rfl rfl (fun _ hF => .assign (lk 1 rfl rfl)) ?_
    refine S.sil 10 rfl rfl (fun _ hF => .assign (lk 1 rfl rfl)) ?_
    refine S.nilD (by kernel_rfl) ?_
    refine thenQ_n ?_
    refine AWp.seq ?_
    refine AWp.seq ?_
    refine W.reg [0, 1] rfl ?_
    refine S.sil 53 rfl rfl (fun _ hF => .move (lk 0 rfl rfl)) ?_
    refine S.sil 54 rfl rfl (fun _ hF => .neq (lk 0 rfl rfl) cI) ?_
    refine S.nil ?_
    refine thenQ_n ?_
    refine AWp.prune (.eq (lk 0 rfl rfl) rfl (.eq (lk 3 rfl rfl) rfl (.eq (lk 12 rfl rfl) rfl (.eq (lk 13 rfl rfl) rfl (.eq (lk 14 rfl rfl) rfl (.eq (lk 15 rfl rfl) rfl (.eq (lk 16 rfl rfl) rfl .nil))))))) ?_
    refine AWp.condM (lk 0 rfl rfl) h (fun c2 h => ?_) (fun c2 h => ?_)
    · skip
      refine AWp.seq ?_
      refine W.reg [0, 1] rfl ?_
      obtain ⟨r11, m11, h⟩ := h.bnd
      refine S.sil 55 rfl rfl (fun _ hF => .callQ ent21 cF .nil (C_usufructlaw13_awake m11)) ?_
      refine S.sil 8 rfl rfl (fun _ hF => .assign (lk 0 rfl rfl)) ?_
      refine S.nil ?_
      refine thenQ_n ?_
      refine AWp.ret ?_
      refine thenQ_r ?_
      obtain rfl := h.ret
      exact endF1 rfl (Wk.selS [] .nil rfl (SelE.leaf (lk 0 rfl rfl) rfl (.refl _) (fun m => (TyOk.bool.lt _ _)) .nil) .nil) (.tmp (lk 0 rfl rfl) rfl) rfl rfl
    · skip
      refine AWp.skip ?_
      refine thenQ_n ?_
      refine AWp.seq ?_
      refine W.reg [0, 1, 2, 3, 4, 5, 6, 7, 8, 9] rfl ?_
      refine S.sil 57 rfl rfl (fun _ hF => .move (lk 4 rfl rfl)) ?_
      refine S.sil 58 rfl rfl (fun _ hF => .fieldAddrC lay51 rfl rfl (lk 4 rfl rfl) rfl (flL_c (show flen _ = 1 from rfl) flL_nil)) ?_
      refine S.sil 59 rfl rfl (fun _ hF => .loadC sz9 ag9 (lk 0 rfl rfl) rfl rfl) ?_
      obtain ⟨r12, m12, h⟩ := h.bnd
      refine S.sil 60 rfl rfl (fun _ hF => .callQ ent24 cF (.c (lk 2 rfl rfl) (V.sub.refl _) (.c (lk 0 rfl rfl) (V.sub.refl _) .nil)) (C_usufructlaw13_one m12)) ?_
      refine S.sil 56 rfl rfl (fun _ hF => .move (lk 0 rfl rfl)) ?_
      refine S.sil 61 rfl rfl (fun _ hF => .extract (lk 0 rfl rfl) rfl) ?_
      refine S.sil 62 rfl rfl (fun _ hF => .extract (lk 1 rfl rfl) rfl) ?_
      refine S.eff 11 rfl rfl (.nf (v2 := .ptr 1 [] 0) (H2 := [.dead, .cells (.st [V.str (default : ByteArray), (V.int .i64) 0, (V.int .i64) 0, E_TCounter (default : TCounter), E_TLock (default : TLock), .nils])]) (.alloc zv33) rfl rfl) trivial ?_
      refine S.effN rfl rfl (.nf (H2 := [.dead, .cells (E_TField r12.1)]) (.storeP sz33 (lk 0 rfl rfl) (lk 2 rfl rfl) rfl (.refl _) rfl .nil (by first | rfl | omega) .nil (ty_TField.fl r12.1) (fl_st (flL_c (show flen _ = 1 from rfl) (flL_c (show flen _ = 1 from rfl) (flL_c (show flen _ = 1 from rfl) (flL_c (ty_TCounter.fl (default : TCounter)) (flL_c (ty_TLock.fl (default : TLock)) (flL_c (show flen _ = 1 from rfl) flL_nil))))))) rfl) rfl rfl) trivial ?_
      refine S.sil 12 rfl rfl (fun _ hF => .assign (lk 1 rfl rfl)) ?_
      refine S.nil ?_
      refine thenQ_n ?_
      refine AWp.wk (Wk.freeze 1 rfl rfl (.same (lk 0 rfl rfl) (.cons (lk 1 rfl rfl) rfl (.ptr .nil (by first | rfl | omega)) (.same (lk 10 rfl rfl) (.same (lk 11 rfl rfl) (.same (lk 12 rfl rfl) (.same (lk 13 rfl rfl) (.same (lk 14 rfl rfl) (.same (lk 15 rfl rfl) .nil)))))))) (.refl _)) ?_
      refine AWp.seq ?_
      refine W.reg [0, 1, 2, 3, 4, 5, 6, 7, 8, 9] rfl ?_
      refine S.sil 64 rfl rfl (fun _ hF => .move (lk 2 rfl rfl)) ?_
      refine S.sil 65 rfl rfl (fun _ hF => .fieldAddrC lay51 rfl rfl (lk 5 rfl rfl) rfl (flL_c (show flen _ = 1 from rfl) flL_nil)) ?_
      refine S.sil 66 rfl rfl (fun _ hF => .loadC sz9 ag9 (lk 0 rfl rfl) rfl rfl) ?_
      obtain ⟨r13, m13, h⟩ := h.bnd
      refine S.sil 67 rfl rfl (fun _ hF => .callQ ent24 cF (.c (lk 2 rfl rfl) (V.sub.refl _) (.c (lk 0 rfl rfl) (V.sub.refl _) .nil)) (C_usufructlaw13_one m13)) ?_
      refine S.sil 63 rfl rfl (fun _ hF => .move (lk 0 rfl rfl)) ?_
      refine S.sil 68 rfl rfl (fun _ hF => .extract (lk 0 rfl rfl) rfl) ?_
      refine S.sil 69 rfl rfl (fun _ hF => .extract (lk 1 rfl rfl) rfl) ?_
      refine S.eff 13 rfl rfl (.nf (v2 := .ptr 2 [] 0) (H2 := [.dead, .dead, .cells (.st [V.str (default : ByteArray), (V.int .i64) 0, (V.int .i64) 0, E_TCounter (default : TCounter), E_TLock (default : TLock), .nils])]) (.alloc zv33) rfl rfl) trivial ?_
      refine S.effN rfl rfl (.nf (H2 := [.dead, .dead, .cells (E_TField r13.1)]) (.storeP sz33 (lk 0 rfl rfl) (lk 2 rfl rfl) rfl (.refl _) rfl .nil (by first | rfl | omega) .nil (ty_TField.fl r13.1) (fl_st (flL_c (show flen _ = 1 from rfl) (flL_c (show flen _ = 1 from rfl) (flL_c (show flen _ = 1 from rfl) (flL_c (ty_TCounter.fl (default : TCounter)) (flL_c (ty_TLock.fl (default : TLock)) (flL_c (show flen _ = 1 from rfl) flL_nil))))))) rfl) rfl rfl) trivial ?_
      refine S.sil 14 rfl rfl (fun _ hF => .assign (lk 1 rfl rfl)) ?_
      refine S.nil ?_
      refine thenQ_n ?_
      refine AWp.wk (Wk.freeze 2 rfl rfl (.same (lk 0 rfl rfl) (.cons (lk 1 rfl rfl) rfl (.ptr .nil (by first | rfl | omega)) (.same (lk 9 rfl rfl) (.same (lk 10 rfl rfl) (.same (lk 11 rfl rfl) (.same (lk 12 rfl rfl) (.same (lk 13 rfl rfl) (.same (lk 14 rfl rfl) (.same (lk 15 rfl rfl) (.same (lk 16 rfl rfl) .nil)))))))))) (.refl _)) ?_
      refine AWp.seq ?_
      refine W.regE 4 5 [0, 1, 2, 3, 4, 5, 6, 7] [0, 1, 2, 3, 5, 4, 6, 7] (fun _ => True) trivial mixed rfl (by kernel_rfl) ?_ ?_
      · skip
        refine S.sil 70 rfl rfl (fun _ hF => .fieldAddrC lay33 rfl rfl (lk 3 rfl rfl) rfl (flL_c (show flen _ = 1 from rfl) (flL_c (show flen _ = 1 from rfl) (flL_c (show flen _ = 1 from rfl) flL_nil)))) ?_
        refine S.sil 71 rfl rfl (fun _ hF => .loadC sz28 ag28 (lk 0 rfl rfl) (ty_TCounter.fl r12.1.Counter) rfl) ?_
        refine S.sil 72 rfl rfl (fun _ hF => .fieldAddrC lay33 rfl rfl (lk 3 rfl rfl) rfl (flL_c (show flen _ = 1 from rfl) (flL_c (show flen _ = 1 from rfl) (flL_c (show flen _ = 1 from rfl) flL_nil)))) ?_
        refine S.sil 73 rfl rfl (fun _ hF => .loadC sz28 ag28 (lk 0 rfl rfl) (ty_TCounter.fl r13.1.Counter) rfl) ?_
        refine S.new 15 rfl rfl (.alloc zv28) trivial ?_
        refine S.new 16 rfl rfl (.alloc zv28) trivial ?_
        refine S.effN rfl rfl (.storeP sz28 (lk 1 rfl rfl) (lk 4 rfl rfl) rfl (.refl _) rfl .nil (by first | rfl | omega) .nil (ty_TCounter.fl r12.1.Counter) (ty_TCounter.fl (default : TCounter)) rfl) trivial ?_
        refine S.effN rfl rfl (.storeP sz28 (lk 0 rfl rfl) (lk 2 rfl rfl) rfl (.refl _) rfl .nil (by first | rfl | omega) .nil (ty_TCounter.fl r13.1.Counter) (ty_TCounter.fl (default : TCounter)) rfl) trivial ?_
        refine S.nilD (by kernel_rfl) ?_
        refine thenQ_n ?_
        refine AWp.wk (Wk.freeze 3 rfl rfl (.same (lk 0 rfl rfl) (.cons (lk 1 rfl rfl) rfl (.ptr .nil (by first | rfl | omega)) (.same (lk 6 rfl rfl) (.same (lk 7 rfl rfl) (.same (lk 8 rfl rfl) (.same (lk 10 rfl rfl) (.same (lk 11 rfl rfl) (.same (lk 12 rfl rfl) (.same (lk 13 rfl rfl) (.same (lk 14 rfl rfl) (.same (lk 15 rfl rfl) .nil))))))))))) (.refl _)) ?_
        refine AWp.wk (Wk.freeze 4 rfl rfl (.cons (lk 0 rfl rfl) rfl (.ptr .nil (by first | rfl | omega)) (.same (lk 1 rfl rfl) (.same (lk 2 rfl rfl) (.same (lk 3 rfl rfl) (.same (lk 4 rfl rfl) (.same (lk 5 rfl rfl) (.same (lk 6 rfl rfl) (.same (lk 7 rfl rfl) (.same (lk 8 rfl rfl) (.same (lk 9 rfl rfl) (.same (lk 10 rfl rfl) .nil))))))))))) (.refl _)) ?_
        refine AWp.seq ?_
        refine W.reg [0, 1, 2, 3, 4, 5, 6] rfl ?_
        refine S.sil 75 rfl rfl (fun _ hF => .loadC sz33 ag33 (lk 3 rfl rfl) (ty_TField.fl r13.1) rfl) ?_
        obtain ⟨r14, m14, h⟩ := h.bnd
        refine S.sil 76 rfl rfl (fun _ hF => .callQ ent25 cF (.c (lk 0 rfl rfl) (V.sub.refl _) .nil) (C_usufructref07_View m14)) ?_
        refine S.sil 74 rfl rfl (fun _ hF => .move (lk 0 rfl rfl)) ?_
        refine S.sil 77 rfl rfl (fun _ hF => .extract (lk 0 rfl rfl) rfl) ?_
        refine S.sil 78 rfl rfl (fun _ hF => .extract (lk 1 rfl rfl) rfl) ?_
        refine S.sil 17 rfl rfl (fun _ hF => .assign (lk 1 rfl rfl)) ?_
        refine S.sil 18 rfl rfl (fun _ hF => .assign (lk 1 rfl rfl)) ?_
        refine S.nil ?_
        refine thenQ_n ?_
        refine AWp.seq ?_
        refine AWp.seq ?_
        refine W.reg [0, 1, 2, 3, 4, 5, 6, 7, 8, 9, 10, 11, 12, 13, 14, 15, 16, 17, 18, 19, 20, 21, 22] rfl ?_
        refine S.sil 79 rfl rfl (fun _ hF => .move (lk 11 rfl rfl)) ?_
        refine S.sil 80 rfl rfl (fun _ hF => .not (lk 0 rfl rfl)) ?_
        refine S.sil 81 rfl rfl (fun _ hF => .move (lk 0 rfl rfl)) ?_
        refine S.gsil 82 2 81 false rfl rfl rfl (lk 0 rfl rfl) (fun hB _ hF => .move (lk 12 rfl rfl)) ?_
        refine S.gsil 83 2 81 false rfl rfl rfl (lk 1 rfl rfl) (fun hB _ hF => .not (ifT hB (lk 0 rfl rfl))) ?_
        refine S.sil 84 rfl rfl (fun _ hF => .pickOr (lk 2 rfl rfl) cB (fun h => ifT h (lk 0 rfl rfl))) ?_
        refine S.sil 85 rfl rfl (fun _ hF => .move (lk 0 rfl rfl)) ?_
        refine S.gsil 86 6 85 false rfl rfl rfl (lk 0 rfl rfl) (fun hB _ hF => .fieldAddrC lay33 rfl rfl (lk 17 rfl rfl) rfl (flL_c (show flen _ = 1 from rfl) flL_nil)) ?_
        refine S.gsil 87 6 85 false rfl rfl rfl (lk 1 rfl rfl) (fun hB _ hF => .loadC sz3 ag3 (ifT hB (lk 0 rfl rfl)) rfl rfl) ?_
        refine S.gsil 88 6 85 false rfl rfl rfl (lk 2 rfl rfl) (fun hB _ hF => .eql (ifT hB (lk 0 rfl rfl)) cI) ?_
        refine S.gsil 89 6 85 false rfl rfl rfl (lk 3 rfl rfl) (fun hB _ hF => .move (ifT hB (lk 0 rfl rfl))) ?_
        refine S.gsil2 90 10 89 true rfl rfl rfl (lk 0 rfl rfl) (fun hB _ hF => .move (lk 12 rfl rfl)) ?_
        refine S.gsil2 91 10 89 true rfl rfl rfl (lk 1 rfl rfl) (fun hB _ hF => .fieldAddrC lay28 rfl rfl (lk 19 rfl rfl) rfl (flL_c (show flen _ = 1 from rfl) flL_nil)) ?_
        refine S.gsil2 92 10 89 true rfl rfl rfl (lk 2 rfl rfl) (fun hB _ hF => .loadC sz3 ag3 (ifT hB (lk 0 rfl rfl)) rfl rfl) ?_
        refine S.gsil2 93 10 89 true rfl rfl rfl (lk 3 rfl rfl) (fun hB _ hF => .lss (ifT hB (lk 2 rfl rfl)) (ifT hB (lk 0 rfl rfl))) ?_
        refine S.gsil2 94 10 89 true rfl rfl rfl (lk 4 rfl rfl) (fun hB _ hF => .move (ifT hB (lk 0 rfl rfl))) ?_
        refine S.gsil2 95 15 94 false rfl rfl rfl (lk 0 rfl rfl) (fun hB _ hF => .move (lk 17 rfl rfl)) ?_
        refine S.gsil2 96 15 94 false rfl rfl rfl (lk 1 rfl rfl) (fun hB _ hF => .fieldAddrC lay28 rfl rfl (lk 24 rfl rfl) rfl (flL_c (show flen _ = 1 from rfl) (flL_c (show flen _ = 1 from rfl) flL_nil))) ?_
        refine S.gsil2 97 15 94 false rfl rfl rfl (lk 2 rfl rfl) (fun hB _ hF => .loadC sz3 ag3 (ifT hB (lk 0 rfl rfl)) rfl rfl) ?_
        refine S.gsil2 98 15 94 false rfl rfl rfl (lk 3 rfl rfl) (fun hB _ hF => .gtr (ifT hB (lk 2 rfl rfl)) (ifT hB (lk 0 rfl rfl))) ?_
        refine S.gsil2 99 10 89 true rfl rfl rfl (lk 9 rfl rfl) (fun hB _ hF => .pickOr (ifT hB (lk 4 rfl rfl)) cB (fun h => ifT ⟨hB, h⟩ (lk 0 rfl rfl))) ?_
        refine S.gsil 100 6 85 false rfl rfl rfl (lk 14 rfl rfl) (fun hB _ hF => .pickAnd (ifT hB (lk 10 rfl rfl)) (fun h => ifT ⟨hB, h⟩ (lk 0 rfl rfl)) cB) ?_
        obtain ⟨v15, ev15, h⟩ := h.nam
        refine S.sil 101 rfl rfl (fun _ hF => .nv (.pickOr (lk 15 rfl rfl) cB (fun h => ifT h (lk 0 rfl rfl))) (congrArg V.bool ev15.symm)) ?_
        refine S.nil ?_
        refine thenQ_n ?_
        refine AWp.prune (.eq (lk 0 rfl rfl) rfl (.eq (lk 30 rfl rfl) rfl (.eq (lk 31 rfl rfl) rfl (.eq (lk 35 rfl rfl) rfl (.eq (lk 36 rfl rfl) rfl (.eq (lk 37 rfl rfl) rfl (.eq (lk 38 rfl rfl) rfl (.eq (lk 39 rfl rfl) rfl (.eq (lk 40 rfl rfl) rfl .nil))))))))) ?_
        refine AWp.condM (lk 0 rfl rfl) h (fun c3 h => ?_) (fun c3 h => ?_)
        · skip
          refine AWp.seq ?_
          refine W.reg [0] rfl ?_
          refine S.sil 8 rfl rfl (fun _ hF => .assign cB) ?_
          refine S.nil ?_
          refine thenQ_n ?_
          refine AWp.ret ?_
          refine thenQ_r ?_
          obtain rfl := h.ret
          exact endF1 rfl (Wk.selS [] .nil rfl (SelE.leaf (lk 0 rfl rfl) rfl (.refl _) (fun m => (TyOk.bool.lt _ _)) .nil) .nil) (.tmp (lk 0 rfl rfl) rfl) rfl rfl
        · skip
          refine AWp.skip ?_
          refine thenQ_n ?_
          refine AWp.seq ?_
          refine AWp.seq ?_
          refine W.reg [0, 1] rfl ?_
          refine S.sil 102 rfl rfl (fun _ hF => .fieldAddrC lay51 rfl rfl (lk 5 rfl rfl) rfl flL_nil) ?_
          refine S.sil 103 rfl rfl (fun _ hF => .loadC sz3 ag3 (lk 0 rfl rfl) rfl rfl) ?_
          refine S.nil ?_
          refine thenQ_n ?_
          refine AWp.block ?_
          refine AWp.seq ?_
          refine W.reg [0, 1] rfl ?_
          refine S.sil 105 rfl rfl (fun _ hF => .eql (lk 0 rfl rfl) cI) ?_
          refine S.sil 104 rfl rfl (fun _ hF => .assign (lk 0 rfl rfl)) ?_
          refine S.nil ?_
          refine thenQ_n ?_
          refine AWp.condM (lk 0 rfl rfl) h (fun c4 h => ?_) (fun c4 h => ?_)
          · skip
            refine AWp.seq ?_
            refine W.reg [0, 1, 2, 3, 4, 5, 6, 7, 8, 9, 10, 11, 12, 13, 14, 15, 16, 17, 18, 19, 20, 21, 22, 23, 24, 25] rfl ?_
            refine S.sil 106 rfl rfl (fun _ hF => .move (lk 11 rfl rfl)) ?_
            refine S.sil 107 rfl rfl (fun _ hF => .fieldAddrC lay28 rfl rfl (lk 6 rfl rfl) rfl (flL_c (show flen _ = 1 from rfl) flL_nil)) ?_
            refine S.sil 108 rfl rfl (fun _ hF => .loadC sz3 ag3 (lk 0 rfl rfl) rfl rfl) ?_
            refine S.sil 109 rfl rfl (fun _ hF => .lss (lk 2 rfl rfl) (lk 0 rfl rfl)) ?_
            refine S.sil 110 rfl rfl (fun _ hF => .move (lk 0 rfl rfl)) ?_
            refine S.gsil 111 4 110 false rfl rfl rfl (lk 0 rfl rfl) (fun hB _ hF => .move (lk 16 rfl rfl)) ?_
            refine S.gsil 112 4 110 false rfl rfl rfl (lk 1 rfl rfl) (fun hB _ hF => .fieldAddrC lay28 rfl rfl (lk 11 rfl rfl) rfl (flL_c (show flen _ = 1 from rfl) (flL_c (show flen _ = 1 from rfl) flL_nil))) ?_
            refine S.gsil 113 4 110 false rfl rfl rfl (lk 2 rfl rfl) (fun hB _ hF => .loadC sz3 ag3 (ifT hB (lk 0 rfl rfl)) rfl rfl) ?_
            refine S.gsil 114 4 110 false rfl rfl rfl (lk 3 rfl rfl) (fun hB _ hF => .gtr (ifT hB (lk 2 rfl rfl)) (ifT hB (lk 0 rfl rfl))) ?_
            obtain ⟨v16, ev16, h⟩ := h.nam
            refine S.sil 115 rfl rfl (fun _ hF => .nv (.pickOr (lk 4 rfl rfl) cB (fun h => ifT h (lk 0 rfl rfl))) (congrArg V.bool ev16.symm)) ?_
            refine S.sil 116 rfl rfl (fun _ hF => .move (lk 0 rfl rfl)) ?_
            refine S.gsil 117 10 116 false rfl rfl rfl (lk 0 rfl rfl) (fun hB _ hF => .move (lk 22 rfl rfl)) ?_
            refine S.gsil 118 10 116 false rfl rfl rfl (lk 1 rfl rfl) (fun hB _ hF => .fieldAddrC lay28 rfl rfl (lk 18 rfl rfl) rfl (flL_c (show flen _ = 1 from rfl) flL_nil)) ?_
            refine S.gsil 119 10 116 false rfl rfl rfl (lk 2 rfl rfl) (fun hB _ hF => .loadC sz3 ag3 (ifT hB (lk 0 rfl rfl)) rfl rfl) ?_
            refine S.gsil 120 10 116 false rfl rfl rfl (lk 3 rfl rfl) (fun hB _ hF => .geq (ifT hB (lk 2 rfl rfl)) (ifT hB (lk 0 rfl rfl))) ?_
            refine S.gsil 121 10 116 false rfl rfl rfl (lk 4 rfl rfl) (fun hB _ hF => .move (ifT hB (lk 0 rfl rfl))) ?_
            refine S.gsil2 122 15 121 true rfl rfl rfl (lk 0 rfl rfl) (fun hB _ hF => .move (lk 27 rfl rfl)) ?_
            refine S.gsil2 123 15 121 true rfl rfl rfl (lk 1 rfl rfl) (fun hB _ hF => .fieldAddrC lay28 rfl rfl (lk 23 rfl rfl) rfl (flL_c (show flen _ = 1 from rfl) (flL_c (show flen _ = 1 from rfl) flL_nil))) ?_
            refine S.gsil2 124 15 121 true rfl rfl rfl (lk 2 rfl rfl) (fun hB _ hF => .loadC sz3 ag3 (ifT hB (lk 0 rfl rfl)) rfl rfl) ?_
            refine S.gsil2 125 15 121 true rfl rfl rfl (lk 3 rfl rfl) (fun hB _ hF => .leq (ifT hB (lk 2 rfl rfl)) (ifT hB (lk 0 rfl rfl))) ?_
            refine S.gsil 126 10 116 false rfl rfl rfl (lk 9 rfl rfl) (fun hB _ hF => .pickAnd (ifT hB (lk 4 rfl rfl)) (fun h => ifT ⟨hB, h⟩ (lk 0 rfl rfl)) cB) ?_
            obtain ⟨v17, ev17, h⟩ := h.nam
            refine S.sil 127 rfl rfl (fun _ hF => .nv (.pickOr (lk 10 rfl rfl) cB (fun h => ifT h (lk 0 rfl rfl))) (congrArg V.bool ev17.symm)) ?_
            refine S.sil 128 rfl rfl (fun _ hF => .move (lk 0 rfl rfl)) ?_
            obtain ⟨r18, m18, h⟩ := h.bnd
            refine S.gsil 129 22 128 true rfl rfl rfl (lk 0 rfl rfl) (fun hB _ hF => .callQ ent21 cF .nil (C_usufructlaw13_awake (gd_get m18 hB))) ?_
            refine S.sil 130 rfl rfl (fun _ hF => .pickAnd (lk 1 rfl rfl) (fun h => ifT h (lk 0 rfl rfl)) cB) ?_
            refine S.sil 8 rfl rfl (fun _ hF => .assign (lk 0 rfl rfl)) ?_
            refine S.nil ?_
            refine thenQ_n ?_
            refine AWp.prune (.eq (lk 0 rfl rfl) rfl .nil) ?_
            refine AWp.ret ?_
            refine blockQ_r ?_
            refine thenQ_r ?_
            obtain rfl := h.ret
            exact endF1 rfl (Wk.selS [] .nil rfl (SelE.leaf (lk 0 rfl rfl) rfl (.refl _) (fun m => (TyOk.bool.lt _ _)) .nil) .nil) (.tmp (lk 0 rfl rfl) rfl) rfl rfl
          · skip
            refine AWp.seq ?_
            refine W.reg [0, 1] rfl ?_
            refine S.sil 132 rfl rfl (fun _ hF => .eql (lk 2 rfl rfl) cI) ?_
            refine S.sil 131 rfl rfl (fun _ hF => .assign (lk 0 rfl rfl)) ?_
            refine S.nil ?_
            refine thenQ_n ?_
            refine AWp.condM (lk 0 rfl rfl) h (fun c5 h => ?_) (fun c5 h => ?_)
            · skip
              refine AWp.seq ?_
              refine W.reg [0, 1, 2, 3, 4, 5, 6, 7, 8, 9] rfl ?_
              refine S.sil 134 rfl rfl (fun _ hF => .move (lk 9 rfl rfl)) ?_
              refine S.sil 135 rfl rfl (fun _ hF => .fieldAddrC lay51 rfl rfl (lk 12 rfl rfl) rfl (flL_c (show flen _ = 1 from rfl) (flL_c (show flen _ = 1 from rfl) flL_nil))) ?_
              refine S.sil 136 rfl rfl (fun _ hF => .loadC sz9 ag9 (lk 0 rfl rfl) rfl rfl) ?_
              obtain ⟨r19, m19, h⟩ := h.bnd
              refine S.sil 137 rfl rfl (fun _ hF => .callQ ent24 cF (.c (lk 2 rfl rfl) (V.sub.refl _) (.c (lk 0 rfl rfl) (V.sub.refl _) .nil)) (C_usufructlaw13_one m19)) ?_
              refine S.sil 133 rfl rfl (fun _ hF => .move (lk 0 rfl rfl)) ?_
              refine S.sil 138 rfl rfl (fun _ hF => .extract (lk 0 rfl rfl) rfl) ?_
              refine S.sil 139 rfl rfl (fun _ hF => .extract (lk 1 rfl rfl) rfl) ?_
              refine S.eff 19 rfl rfl (.nf (v2 := .ptr 5 [] 0) (H2 := [.dead, .dead, .dead, .dead, .dead, .cells (.st [V.str (default : ByteArray), (V.int .i64) 0, (V.int .i64) 0, E_TCounter (default : TCounter), E_TLock (default : TLock), .nils])]) (.alloc zv33) rfl rfl) trivial ?_
              refine S.effN rfl rfl (.nf (H2 := [.dead, .dead, .dead, .dead, .dead, .cells (E_TField r19.1)]) (.storeP sz33 (lk 0 rfl rfl) (lk 2 rfl rfl) rfl (.refl _) rfl .nil (by first | rfl | omega) .nil (ty_TField.fl r19.1) (fl_st (flL_c (show flen _ = 1 from rfl) (flL_c (show flen _ = 1 from rfl) (flL_c (show flen _ = 1 from rfl) (flL_c (ty_TCounter.fl (default : TCounter)) (flL_c (ty_TLock.fl (default : TLock)) (flL_c (show flen _ = 1 from rfl) flL_nil))))))) rfl) rfl rfl) trivial ?_
              refine S.sil 20 rfl rfl (fun _ hF => .assign (lk 1 rfl rfl)) ?_
              refine S.nil ?_
              refine thenQ_n ?_
              refine AWp.wk (Wk.freeze 5 rfl rfl (.same (lk 0 rfl rfl) (.cons (lk 1 rfl rfl) rfl (.ptr .nil (by first | rfl | omega)) (.same (lk 16 rfl rfl) (.same (lk 17 rfl rfl) (.same (lk 19 rfl rfl) (.same (lk 22 rfl rfl) (.same (lk 23 rfl rfl) .nil))))))) (.refl _)) ?_
              refine AWp.seq ?_
              refine W.reg [0, 1, 2, 3] rfl ?_
              refine S.sil 140 rfl rfl (fun _ hF => .fieldAddrC lay33 rfl rfl (lk 1 rfl rfl) rfl (flL_c (show flen _ = 1 from rfl) (flL_c (show flen _ = 1 from rfl) (flL_c (show flen _ = 1 from rfl) flL_nil)))) ?_
              refine S.sil 141 rfl rfl (fun _ hF => .loadC sz28 ag28 (lk 0 rfl rfl) (ty_TCounter.fl r19.1.Counter) rfl) ?_
              refine S.eff 21 rfl rfl (.nf (v2 := .ptr 6 [] 0) (H2 := [.dead, .dead, .dead, .dead, .dead, .dead, .cells (E_TCounter (default : TCounter))]) (.alloc zv28) rfl rfl) trivial ?_
              refine S.effN rfl rfl (.nf (H2 := [.dead, .dead, .dead, .dead, .dead, .dead, .cells (E_TCounter r19.1.Counter)]) (.storeP sz28 (lk 0 rfl rfl) (lk 1 rfl rfl) rfl (.refl _) rfl .nil (by first | rfl | omega) .nil (ty_TCounter.fl r19.1.Counter) (ty_TCounter.fl (default : TCounter)) rfl) rfl rfl) trivial ?_
              refine S.nil ?_
              refine thenQ_n ?_
              refine AWp.wk (Wk.freeze 6 rfl rfl (.cons (lk 0 rfl rfl) rfl (.ptr .nil (by first | rfl | omega)) (.same (lk 3 rfl rfl) (.same (lk 5 rfl rfl) (.same (lk 6 rfl rfl) (.same (lk 7 rfl rfl) (.same (lk 8 rfl rfl) (.same (lk 9 rfl rfl) .nil))))))) (.refl _)) ?_
              refine AWp.seq ?_
              refine W.reg [0, 1, 2, 3, 4, 5, 6, 7, 8, 9, 10, 11, 12, 13, 14, 15, 16, 17, 18, 19, 20, 21, 22, 23, 24, 25, 26, 27, 28, 29, 30, 31, 32, 33, 34, 35, 36, 37, 38, 39, 40, 41, 42, 43, 44] rfl ?_
              refine S.sil 142 rfl rfl (fun _ hF => .move (lk 1 rfl rfl)) ?_
              refine S.sil 143 rfl rfl (fun _ hF => .move (lk 0 rfl rfl)) ?_
              refine S.gsil 144 1 143 true rfl rfl rfl (lk 0 rfl rfl) (fun hB _ hF => .move (lk 7 rfl rfl)) ?_
              refine S.gsil 145 1 143 true rfl rfl rfl (lk 1 rfl rfl) (fun hB _ hF => .fieldAddrC lay28 rfl rfl (lk 5 rfl rfl) rfl (flL_c (show flen _ = 1 from rfl) flL_nil)) ?_
              refine S.gsil 146 1 143 true rfl rfl rfl (lk 2 rfl rfl) (fun hB _ hF => .loadC sz3 ag3 (ifT hB (lk 0 rfl rfl)) rfl rfl) ?_
              refine S.gsil 147 1 143 true rfl rfl rfl (lk 3 rfl rfl) (fun hB _ hF => .lss (ifT hB (lk 2 rfl rfl)) (ifT hB (lk 0 rfl rfl))) ?_
              refine S.gsil 148 1 143 true rfl rfl rfl (lk 4 rfl rfl) (fun hB _ hF => .move (ifT hB (lk 0 rfl rfl))) ?_
              refine S.gsil2 149 6 148 false rfl rfl rfl (lk 0 rfl rfl) (fun hB _ hF => .move (lk 12 rfl rfl)) ?_
              refine S.gsil2 150 6 148 false rfl rfl rfl (lk 1 rfl rfl) (fun hB _ hF => .fieldAddrC lay28 rfl rfl (lk 10 rfl rfl) rfl (flL_c (show flen _ = 1 from rfl) (flL_c (show flen _ = 1 from rfl) flL_nil))) ?_
              refine S.gsil2 151 6 148 false rfl rfl rfl (lk 2 rfl rfl) (fun hB _ hF => .loadC sz3 ag3 (ifT hB (lk 0 rfl rfl)) rfl rfl) ?_
              refine S.gsil2 152 6 148 false rfl rfl rfl (lk 3 rfl rfl) (fun hB _ hF => .gtr (ifT hB (lk 2 rfl rfl)) (ifT hB (lk 0 rfl rfl))) ?_
              refine S.gsil 153 1 143 true rfl rfl rfl (lk 9 rfl rfl) (fun hB _ hF => .pickOr (ifT hB (lk 4 rfl rfl)) cB (fun h => ifT ⟨hB, h⟩ (lk 0 rfl rfl))) ?_
              refine S.gsil 154 1 143 true rfl rfl rfl (lk 10 rfl rfl) (fun hB _ hF => .move (ifT hB (lk 0 rfl rfl))) ?_
              refine S.gsil2 155 12 154 false rfl rfl rfl (lk 0 rfl rfl) (fun hB _ hF => .move (lk 19 rfl rfl)) ?_
              refine S.gsil2 156 12 154 false rfl rfl rfl (lk 1 rfl rfl) (fun hB _ hF => .fieldAddrC lay28 rfl rfl (lk 14 rfl rfl) rfl (flL_c (show flen _ = 1 from rfl) flL_nil)) ?_
              refine S.gsil2 157 12 154 false rfl rfl rfl (lk 2 rfl rfl) (fun hB _ hF => .loadC sz3 ag3 (ifT hB (lk 0 rfl rfl)) rfl rfl) ?_
              refine S.gsil2 158 12 154 false rfl rfl rfl (lk 3 rfl rfl) (fun hB _ hF => .lss (ifT hB (lk 2 rfl rfl)) (ifT hB (lk 0 rfl rfl))) ?_
              refine S.gsil 159 1 143 true rfl rfl rfl (lk 15 rfl rfl) (fun hB _ hF => .pickOr (ifT hB (lk 4 rfl rfl)) cB (fun h => ifT ⟨hB, h⟩ (lk 0 rfl rfl))) ?_
              refine S.gsil 160 1 143 true rfl rfl rfl (lk 16 rfl rfl) (fun hB _ hF => .move (ifT hB (lk 0 rfl rfl))) ?_
              refine S.gsil2 161 18 160 false rfl rfl rfl (lk 0 rfl rfl) (fun hB _ hF => .move (lk 25 rfl rfl)) ?_
              refine S.gsil2 162 18 160 false rfl rfl rfl (lk 1 rfl rfl) (fun hB _ hF => .fieldAddrC lay28 rfl rfl (lk 20 rfl rfl) rfl (flL_c (show flen _ = 1 from rfl) (flL_c (show flen _ = 1 from rfl) flL_nil))) ?_
              refine S.gsil2 163 18 160 false rfl rfl rfl (lk 2 rfl rfl) (fun hB _ hF => .loadC sz3 ag3 (ifT hB (lk 0 rfl rfl)) rfl rfl) ?_
              refine S.gsil2 164 18 160 false rfl rfl rfl (lk 3 rfl rfl) (fun hB _ hF => .gtr (ifT hB (lk 2 rfl rfl)) (ifT hB (lk 0 rfl rfl))) ?_
              refine S.gsil 165 1 143 true rfl rfl rfl (lk 21 rfl rfl) (fun hB _ hF => .pickOr (ifT hB (lk 4 rfl rfl)) cB (fun h => ifT ⟨hB, h⟩ (lk 0 rfl rfl))) ?_
              refine S.gsil 166 1 143 true rfl rfl rfl (lk 22 rfl rfl) (fun hB _ hF => .move (ifT hB (lk 0 rfl rfl))) ?_
              refine S.gsil2 167 24 166 false rfl rfl rfl (lk 0 rfl rfl) (fun hB _ hF => .move (lk 30 rfl rfl)) ?_
              refine S.gsil2 168 24 166 false rfl rfl rfl (lk 1 rfl rfl) (fun hB _ hF => .move (lk 32 rfl rfl)) ?_
              refine S.gsil2 169 24 166 false rfl rfl rfl (lk 2 rfl rfl) (fun hB _ hF => .add (ifT hB (lk 1 rfl rfl)) (ifT hB (lk 0 rfl rfl))) ?_
              refine S.gsil2 170 24 166 false rfl rfl rfl (lk 3 rfl rfl) (fun hB _ hF => .fieldAddrC lay28 rfl rfl (lk 31 rfl rfl) rfl (flL_c (show flen _ = 1 from rfl) flL_nil)) ?_
              refine S.gsil2 171 24 166 false rfl rfl rfl (lk 4 rfl rfl) (fun hB _ hF => .loadC sz3 ag3 (ifT hB (lk 0 rfl rfl)) rfl rfl) ?_
              refine S.gsil2 172 24 166 false rfl rfl rfl (lk 5 rfl rfl) (fun hB _ hF => .geq (ifT hB (lk 2 rfl rfl)) (ifT hB (lk 0 rfl rfl))) ?_
              refine S.gsil2 173 24 166 false rfl rfl rfl (lk 6 rfl rfl) (fun hB _ hF => .move (ifT hB (lk 0 rfl rfl))) ?_
              refine S.gsil2 174 31 173 true rfl rfl rfl (lk 0 rfl rfl) (fun hB _ hF => .move (lk 37 rfl rfl)) ?_
              refine S.gsil2 175 31 173 true rfl rfl rfl (lk 1 rfl rfl) (fun hB _ hF => .move (lk 39 rfl rfl)) ?_
              refine S.gsil2 176 31 173 true rfl rfl rfl (lk 2 rfl rfl) (fun hB _ hF => .add (ifT hB (lk 1 rfl rfl)) (ifT hB (lk 0 rfl rfl))) ?_
              refine S.gsil2 177 31 173 true rfl rfl rfl (lk 3 rfl rfl) (fun hB _ hF => .fieldAddrC lay28 rfl rfl (lk 38 rfl rfl) rfl (flL_c (show flen _ = 1 from rfl) (flL_c (show flen _ = 1 from rfl) flL_nil))) ?_
              refine S.gsil2 178 31 173 true rfl rfl rfl (lk 4 rfl rfl) (fun hB _ hF => .loadC sz3 ag3 (ifT hB (lk 0 rfl rfl)) rfl rfl) ?_
              refine S.gsil2 179 31 173 true rfl rfl rfl (lk 5 rfl rfl) (fun hB _ hF => .leq (ifT hB (lk 2 rfl rfl)) (ifT hB (lk 0 rfl rfl))) ?_
              refine S.gsil2 180 24 166 false rfl rfl rfl (lk 13 rfl rfl) (fun hB _ hF => .pickAnd (ifT hB (lk 6 rfl rfl)) (fun h => ifT ⟨hB, h⟩ (lk 0 rfl rfl)) cB) ?_
              refine S.gsil 181 1 143 true rfl rfl rfl (lk 37 rfl rfl) (fun hB _ hF => .pickOr (ifT hB (lk 14 rfl rfl)) cB (fun h => ifT ⟨hB, h⟩ (lk 0 rfl rfl))) ?_
              obtain ⟨v20, ev20, h⟩ := h.nam
              refine S.sil 182 rfl rfl (fun _ hF => .nv (.pickAnd (lk 38 rfl rfl) (fun h => ifT h (lk 0 rfl rfl)) cB) (congrArg V.bool ev20.symm)) ?_
              refine S.sil 183 rfl rfl (fun _ hF => .move (lk 0 rfl rfl)) ?_
              obtain ⟨r21, m21, h⟩ := h.bnd
              refine S.gsil 184 41 183 true rfl rfl rfl (lk 0 rfl rfl) (fun hB _ hF => .callQ ent21 cF .nil (C_usufructlaw13_awake (gd_get m21 hB))) ?_
              refine S.sil 185 rfl rfl (fun _ hF => .pickAnd (lk 1 rfl rfl) (fun h => ifT h (lk 0 rfl rfl)) cB) ?_
              refine S.sil 8 rfl rfl (fun _ hF => .assign (lk 0 rfl rfl)) ?_
              refine S.nil ?_
              refine thenQ_n ?_
              refine AWp.prune (.eq (lk 0 rfl rfl) rfl .nil) ?_
              refine AWp.ret ?_
              refine blockQ_r ?_
              refine thenQ_r ?_
              obtain rfl := h.ret
              exact endF1 rfl (Wk.selS [] .nil rfl (SelE.leaf (lk 0 rfl rfl) rfl (.refl _) (fun m => (TyOk.bool.lt _ _)) .nil) .nil) (.tmp (lk 0 rfl rfl) rfl) rfl rfl
            · skip
              refine AWp.seq ?_
              refine W.reg [0, 1] rfl ?_
              refine S.sil 187 rfl rfl (fun _ hF => .eql (lk 4 rfl rfl) cI) ?_
              refine S.sil 186 rfl rfl (fun _ hF => .assign (lk 0 rfl rfl)) ?_
              refine S.nil ?_
              refine thenQ_n ?_
              refine AWp.prune (.eq (lk 0 rfl rfl) rfl (.eq (lk 9 rfl rfl) rfl (.eq (lk 10 rfl rfl) rfl (.eq (lk 12 rfl rfl) rfl (.eq (lk 13 rfl rfl) rfl (.eq (lk 14 rfl rfl) rfl .nil)))))) ?_
              refine AWp.condM (lk 0 rfl rfl) h (fun c6 h => ?_) (fun c6 h => ?_)
              · skip
                refine AWp.seq ?_
                refine W.reg [0, 1, 2, 3, 4, 5, 6, 7, 8, 9] rfl ?_
                refine S.sil 189 rfl rfl (fun _ hF => .move (lk 5 rfl rfl)) ?_
                refine S.sil 190 rfl rfl (fun _ hF => .fieldAddrC lay51 rfl rfl (lk 5 rfl rfl) rfl (flL_c (show flen _ = 1 from rfl) (flL_c (show flen _ = 1 from rfl) flL_nil))) ?_
                refine S.sil 191 rfl rfl (fun _ hF => .loadC sz9 ag9 (lk 0 rfl rfl) rfl rfl) ?_
                obtain ⟨r22, m22, h⟩ := h.bnd
                refine S.sil 192 rfl rfl (fun _ hF => .callQ ent24 cF (.c (lk 2 rfl rfl) (V.sub.refl _) (.c (lk 0 rfl rfl) (V.sub.refl _) .nil)) (C_usufructlaw13_one m22)) ?_
                refine S.sil 188 rfl rfl (fun _ hF => .move (lk 0 rfl rfl)) ?_
                refine S.sil 193 rfl rfl (fun _ hF => .extract (lk 0 rfl rfl) rfl) ?_
                refine S.sil 194 rfl rfl (fun _ hF => .extract (lk 1 rfl rfl) rfl) ?_
                refine S.eff 22 rfl rfl (.nf (v2 := .ptr 5 [] 0) (H2 := [.dead, .dead, .dead, .dead, .dead, .cells (.st [V.str (default : ByteArray), (V.int .i64) 0, (V.int .i64) 0, E_TCounter (default : TCounter), E_TLock (default : TLock), .nils])]) (.alloc zv33) rfl rfl) trivial ?_
                refine S.effN rfl rfl (.nf (H2 := [.dead, .dead, .dead, .dead, .dead, .cells (E_TField r22.1)]) (.storeP sz33 (lk 0 rfl rfl) (lk 2 rfl rfl) rfl (.refl _) rfl .nil (by first | rfl | omega) .nil (ty_TField.fl r22.1) (fl_st (flL_c (show flen _ = 1 from rfl) (flL_c (show flen _ = 1 from rfl) (flL_c (show flen _ = 1 from rfl) (flL_c (ty_TCounter.fl (default : TCounter)) (flL_c (ty_TLock.fl (default : TLock)) (flL_c (show flen _ = 1 from rfl) flL_nil))))))) rfl) rfl rfl) trivial ?_
                refine S.sil 23 rfl rfl (fun _ hF => .assign (lk 1 rfl rfl)) ?_
                refine S.nil ?_
                refine thenQ_n ?_
                refine AWp.wk (Wk.freeze 5 rfl rfl (.same (lk 0 rfl rfl) (.cons (lk 1 rfl rfl) rfl (.ptr .nil (by first | rfl | omega)) (.same (lk 10 rfl rfl) (.same (lk 11 rfl rfl) (.same (lk 12 rfl rfl) .nil))))) (.refl _)) ?_
                refine AWp.seq ?_
                refine W.reg [0, 1, 2, 3] rfl ?_
                refine S.sil 195 rfl rfl (fun _ hF => .fieldAddrC lay33 rfl rfl (lk 1 rfl rfl) rfl (flL_c (show flen _ = 1 from rfl) (flL_c (show flen _ = 1 from rfl) (flL_c (show flen _ = 1 from rfl) flL_nil)))) ?_
                refine S.sil 196 rfl rfl (fun _ hF => .loadC sz28 ag28 (lk 0 rfl rfl) (ty_TCounter.fl r22.1.Counter) rfl) ?_
                refine S.eff 24 rfl rfl (.nf (v2 := .ptr 6 [] 0) (H2 := [.dead, .dead, .dead, .dead, .dead, .dead, .cells (E_TCounter (default : TCounter))]) (.alloc zv28) rfl rfl) trivial ?_
                refine S.effN rfl rfl (.nf (H2 := [.dead, .dead, .dead, .dead, .dead, .dead, .cells (E_TCounter r22.1.Counter)]) (.storeP sz28 (lk 0 rfl rfl) (lk 1 rfl rfl) rfl (.refl _) rfl .nil (by first | rfl | omega) .nil (ty_TCounter.fl r22.1.Counter) (ty_TCounter.fl (default : TCounter)) rfl) rfl rfl) trivial ?_
                refine S.nil ?_
                refine thenQ_n ?_
                refine AWp.wk (Wk.freeze 6 rfl rfl (.cons (lk 0 rfl rfl) rfl (.ptr .nil (by first | rfl | omega)) (.same (lk 3 rfl rfl) (.same (lk 5 rfl rfl) (.same (lk 6 rfl rfl) (.same (lk 7 rfl rfl) .nil))))) (.refl _)) ?_
                refine AWp.seq ?_
                refine W.reg [0, 1, 2, 3, 4, 5, 6, 7, 8, 9, 10, 11, 12, 13, 14, 15, 16, 17, 18, 19, 20, 21, 22, 23, 24] rfl ?_
                refine S.sil 197 rfl rfl (fun _ hF => .move (lk 1 rfl rfl)) ?_
                refine S.sil 198 rfl rfl (fun _ hF => .move (lk 0 rfl rfl)) ?_
                refine S.gsil 199 1 198 true rfl rfl rfl (lk 0 rfl rfl) (fun hB _ hF => .fieldAddrC lay28 rfl rfl (lk 4 rfl rfl) rfl (flL_c (show flen _ = 1 from rfl) flL_nil)) ?_
                refine S.gsil 200 1 198 true rfl rfl rfl (lk 1 rfl rfl) (fun hB _ hF => .loadC sz3 ag3 (ifT hB (lk 0 rfl rfl)) rfl rfl) ?_
                refine S.gsil 201 1 198 true rfl rfl rfl (lk 2 rfl rfl) (fun hB _ hF => .fieldAddrC lay28 rfl rfl (lk 7 rfl rfl) rfl (flL_c (show flen _ = 1 from rfl) flL_nil)) ?_
                refine S.gsil 202 1 198 true rfl rfl rfl (lk 3 rfl rfl) (fun hB _ hF => .loadC sz3 ag3 (ifT hB (lk 0 rfl rfl)) rfl rfl) ?_
                refine S.gsil 203 1 198 true rfl rfl rfl (lk 4 rfl rfl) (fun hB _ hF => .fieldAddrC lay28 rfl rfl (lk 6 rfl rfl) rfl (flL_c (show flen _ = 1 from rfl) flL_nil)) ?_
                refine S.gsil 204 1 198 true rfl rfl rfl (lk 5 rfl rfl) (fun hB _ hF => .loadC sz3 ag3 (ifT hB (lk 0 rfl rfl)) rfl rfl) ?_
                refine S.gsil 205 1 198 true rfl rfl rfl (lk 6 rfl rfl) (fun hB _ hF => .add (ifT hB (lk 2 rfl rfl)) (ifT hB (lk 0 rfl rfl))) ?_
                refine S.gsil 206 1 198 true rfl rfl rfl (lk 7 rfl rfl) (fun hB _ hF => .eql (ifT hB (lk 5 rfl rfl)) (ifT hB (lk 0 rfl rfl))) ?_
                obtain ⟨v23, ev23, h⟩ := h.nam
                refine S.sil 207 rfl rfl (fun _ hF => .nv (.pickAnd (lk 8 rfl rfl) (fun h => ifT h (lk 0 rfl rfl)) cB) (congrArg V.bool ev23.symm)) ?_
                refine S.sil 208 rfl rfl (fun _ hF => .move (lk 0 rfl rfl)) ?_
                refine S.gsil 209 11 208 true rfl rfl rfl (lk 0 rfl rfl) (fun hB _ hF => .fieldAddrC lay28 rfl rfl (lk 14 rfl rfl) rfl (flL_c (show flen _ = 1 from rfl) (flL_c (show flen _ = 1 from rfl) flL_nil))) ?_
                refine S.gsil 210 11 208 true rfl rfl rfl (lk 1 rfl rfl) (fun hB _ hF => .loadC sz3 ag3 (ifT hB (lk 0 rfl rfl)) rfl rfl) ?_
                refine S.gsil 211 11 208 true rfl rfl rfl (lk 2 rfl rfl) (fun hB _ hF => .fieldAddrC lay28 rfl rfl (lk 17 rfl rfl) rfl (flL_c (show flen _ = 1 from rfl) (flL_c (show flen _ = 1 from rfl) flL_nil))) ?_
                refine S.gsil 212 11 208 true rfl rfl rfl (lk 3 rfl rfl) (fun hB _ hF => .loadC sz3 ag3 (ifT hB (lk 0 rfl rfl)) rfl rfl) ?_
                refine S.gsil 213 11 208 true rfl rfl rfl (lk 4 rfl rfl) (fun hB _ hF => .fieldAddrC lay28 rfl rfl (lk 16 rfl rfl) rfl (flL_c (show flen _ = 1 from rfl) (flL_c (show flen _ = 1 from rfl) flL_nil))) ?_
                refine S.gsil 214 11 208 true rfl rfl rfl (lk 5 rfl rfl) (fun hB _ hF => .loadC sz3 ag3 (ifT hB (lk 0 rfl rfl)) rfl rfl) ?_
                refine S.gsil 215 11 208 true rfl rfl rfl (lk 6 rfl rfl) (fun hB _ hF => .add (ifT hB (lk 2 rfl rfl)) (ifT hB (lk 0 rfl rfl))) ?_
                refine S.gsil 216 11 208 true rfl rfl rfl (lk 7 rfl rfl) (fun hB _ hF => .eql (ifT hB (lk 5 rfl rfl)) (ifT hB (lk 0 rfl rfl))) ?_
                obtain ⟨v24, ev24, h⟩ := h.nam
                refine S.sil 217 rfl rfl (fun _ hF => .nv (.pickAnd (lk 8 rfl rfl) (fun h => ifT h (lk 0 rfl rfl)) cB) (congrArg V.bool ev24.symm)) ?_
                refine S.sil 218 rfl rfl (fun _ hF => .move (lk 0 rfl rfl)) ?_
                obtain ⟨r25, m25, h⟩ := h.bnd
                refine S.gsil 219 21 218 true rfl rfl rfl (lk 0 rfl rfl) (fun hB _ hF => .callQ ent21 cF .nil (C_usufructlaw13_awake (gd_get m25 hB))) ?_
                refine S.sil 220 rfl rfl (fun _ hF => .pickAnd (lk 1 rfl rfl) (fun h => ifT h (lk 0 rfl rfl)) cB) ?_
                refine S.sil 8 rfl rfl (fun _ hF => .assign (lk 0 rfl rfl)) ?_
                refine S.nil ?_
                refine thenQ_n ?_
                refine AWp.prune (.eq (lk 0 rfl rfl) rfl .nil) ?_
                refine AWp.ret ?_
                refine blockQ_r ?_
                refine thenQ_r ?_
                obtain rfl := h.ret
                exact endF1 rfl (Wk.selS [] .nil rfl (SelE.leaf (lk 0 rfl rfl) rfl (.refl _) (fun m => (TyOk.bool.lt _ _)) .nil) .nil) (.tmp (lk 0 rfl rfl) rfl) rfl rfl
              · skip
                refine AWp.skip ?_
                refine blockQ_n ?_
                refine thenQ_n ?_
                refine AWp.seq ?_
                refine W.reg [0, 1] rfl ?_
                obtain ⟨r26, m26, h⟩ := h.bnd
                refine S.sil 221 rfl rfl (fun _ hF => .callQ ent21 cF .nil (C_usufructlaw13_awake m26)) ?_
                refine S.sil 8 rfl rfl (fun _ hF => .assign (lk 0 rfl rfl)) ?_
                refine S.nil ?_
                refine thenQ_n ?_
                refine AWp.ret ?_
                obtain rfl := h.ret
                exact endF1 rfl (Wk.selS [] .nil rfl (SelE.leaf (lk 0 rfl rfl) rfl (.refl _) (fun m => (TyOk.bool.lt _ _)) .nil) .nil) (.tmp (lk 0 rfl rfl) rfl) rfl rfl
      · skip
        refine S.sil 70 rfl rfl (fun _ hF => .fieldAddrC lay33 rfl rfl (lk 3 rfl rfl) rfl (flL_c (show flen _ = 1 from rfl) (flL_c (show flen _ = 1 from rfl) (flL_c (show flen _ = 1 from rfl) flL_nil)))) ?_
        refine S.sil 71 rfl rfl (fun _ hF => .loadC sz28 ag28 (lk 0 rfl rfl) (ty_TCounter.fl r12.1.Counter) rfl) ?_
        refine S.sil 72 rfl rfl (fun _ hF => .fieldAddrC lay33 rfl rfl (lk 3 rfl rfl) rfl (flL_c (show flen _ = 1 from rfl) (flL_c (show flen _ = 1 from rfl) (flL_c (show flen _ = 1 from rfl) flL_nil)))) ?_
        refine S.sil 73 rfl rfl (fun _ hF => .loadC sz28 ag28 (lk 0 rfl rfl) (ty_TCounter.fl r13.1.Counter) rfl) ?_
        refine S.new 16 rfl rfl (.alloc zv28) trivial ?_
        refine S.new 15 rfl rfl (.alloc zv28) trivial ?_
        refine S.effN rfl rfl (.storeP sz28 (lk 0 rfl rfl) (lk 4 rfl rfl) rfl (.refl _) rfl .nil (by first | rfl | omega) .nil (ty_TCounter.fl r12.1.Counter) (ty_TCounter.fl (default : TCounter)) rfl) trivial ?_
        refine S.effN rfl rfl (.storeP sz28 (lk 1 rfl rfl) (lk 2 rfl rfl) rfl (.refl _) rfl .nil (by first | rfl | omega) .nil (ty_TCounter.fl r13.1.Counter) (ty_TCounter.fl (default : TCounter)) rfl) trivial ?_
        refine S.nilD (by kernel_rfl) ?_
        refine thenQ_n ?_
        refine AWp.wk (Wk.freeze 3 rfl rfl (.same (lk 0 rfl rfl) (.cons (lk 1 rfl rfl) rfl (.ptr .nil (by first | rfl | omega)) (.same (lk 6 rfl rfl) (.same (lk 7 rfl rfl) (.same (lk 8 rfl rfl) (.same (lk 10 rfl rfl) (.same (lk 11 rfl rfl) (.same (lk 12 rfl rfl) (.same (lk 13 rfl rfl) (.same (lk 14 rfl rfl) (.same (lk 15 rfl rfl) .nil))))))))))) (.refl _)) ?_
        refine AWp.wk (Wk.freeze 4 rfl rfl (.cons (lk 0 rfl rfl) rfl (.ptr .nil (by first | rfl | omega)) (.same (lk 1 rfl rfl) (.same (lk 2 rfl rfl) (.same (lk 3 rfl rfl) (.same (lk 4 rfl rfl) (.same (lk 5 rfl rfl) (.same (lk 6 rfl rfl) (.same (lk 7 rfl rfl) (.same (lk 8 rfl rfl) (.same (lk 9 rfl rfl) (.same (lk 10 rfl rfl) .nil))))))))))) (.refl _)) ?_
        refine AWp.seq ?_
        refine W.reg [0, 1, 2, 3, 4, 5, 6] rfl ?_
        refine S.sil 75 rfl rfl (fun _ hF => .loadC sz33 ag33 (lk 3 rfl rfl) (ty_TField.fl r13.1) rfl) ?_
        obtain ⟨r14, m14, h⟩ := h.bnd
        refine S.sil 76 rfl rfl (fun _ hF => .callQ ent25 cF (.c (lk 0 rfl rfl) (V.sub.refl _) .nil) (C_usufructref07_View m14)) ?_
        refine S.sil 74 rfl rfl (fun _ hF => .move (lk 0 rfl rfl)) ?_
        refine S.sil 77 rfl rfl (fun _ hF => .extract (lk 0 rfl rfl) rfl) ?_
        refine S.sil 78 rfl rfl (fun _ hF => .extract (lk 1 rfl rfl) rfl) ?_
        refine S.sil 17 rfl rfl (fun _ hF => .assign (lk 1 rfl rfl)) ?_
        refine S.sil 18 rfl rfl (fun _ hF => .assign (lk 1 rfl rfl)) ?_
        refine S.nil ?_
        refine thenQ_n ?_
        refine AWp.seq ?_
        refine AWp.seq ?_
        refine W.reg [0, 1, 2, 3, 4, 5, 6, 7, 8, 9, 10, 11, 12, 13, 14, 15, 16, 17, 18, 19, 20, 21, 22] rfl ?_
        refine S.sil 79 rfl rfl (fun _ hF => .move (lk 11 rfl rfl)) ?_
        refine S.sil 80 rfl rfl (fun _ hF => .not (lk 0 rfl rfl)) ?_
        refine S.sil 81 rfl rfl (fun _ hF => .move (lk 0 rfl rfl)) ?_
        refine S.gsil 82 2 81 false rfl rfl rfl (lk 0 rfl rfl) (fun hB _ hF => .move (lk 12 rfl rfl)) ?_
        refine S.gsil 83 2 81 false rfl rfl rfl (lk 1 rfl rfl) (fun hB _ hF => .not (ifT hB (lk 0 rfl rfl))) ?_
        refine S.sil 84 rfl rfl (fun _ hF => .pickOr (lk 2 rfl rfl) cB (fun h => ifT h (lk 0 rfl rfl))) ?_
        refine S.sil 85 rfl rfl (fun _ hF => .move (lk 0 rfl rfl)) ?_
        refine S.gsil 86 6 85 false rfl rfl rfl (lk 0 rfl rfl) (fun hB _ hF => .fieldAddrC lay33 rfl rfl (lk 17 rfl rfl) rfl (flL_c (show flen _ = 1 from rfl) flL_nil)) ?_
        refine S.gsil 87 6 85 false rfl rfl rfl (lk 1 rfl rfl) (fun hB _ hF => .loadC sz3 ag3 (ifT hB (lk 0 rfl rfl)) rfl rfl) ?_
        refine S.gsil 88 6 85 false rfl rfl rfl (lk 2 rfl rfl) (fun hB _ hF => .eql (ifT hB (lk 0 rfl rfl)) cI) ?_
        refine S.gsil 89 6 85 false rfl rfl rfl (lk 3 rfl rfl) (fun hB _ hF => .move (ifT hB (lk 0 rfl rfl))) ?_
        refine S.gsil2 90 10 89 true rfl rfl rfl (lk 0 rfl rfl) (fun hB _ hF => .move (lk 12 rfl rfl)) ?_
        refine S.gsil2 91 10 89 true rfl rfl rfl (lk 1 rfl rfl) (fun hB _ hF => .fieldAddrC lay28 rfl rfl (lk 20 rfl rfl) rfl (flL_c (show flen _ = 1 from rfl) flL_nil)) ?_
        refine S.gsil2 92 10 89 true rfl rfl rfl (lk 2 rfl rfl) (fun hB _ hF => .loadC sz3 ag3 (ifT hB (lk 0 rfl rfl)) rfl rfl) ?_
        refine S.gsil2 93 10 89 true rfl rfl rfl (lk 3 rfl rfl) (fun hB _ hF => .lss (ifT hB (lk 2 rfl rfl)) (ifT hB (lk 0 rfl rfl))) ?_
        refine S.gsil2 94 10 89 true rfl rfl rfl (lk 4 rfl rfl) (fun hB _ hF => .move (ifT hB (lk 0 rfl rfl))) ?_
        refine S.gsil2 95 15 94 false rfl rfl rfl (lk 0 rfl rfl) (fun hB _ hF => .move (lk 17 rfl rfl)) ?_
        refine S.gsil2 96 15 94 false rfl rfl rfl (lk 1 rfl rfl) (fun hB _ hF => .fieldAddrC lay28 rfl rfl (lk 25 rfl rfl) rfl (flL_c (show flen _ = 1 from rfl) (flL_c (show flen _ = 1 from rfl) flL_nil))) ?_
        refine S.gsil2 97 15 94 false rfl rfl rfl (lk 2 rfl rfl) (fun hB _ hF => .loadC sz3 ag3 (ifT hB (lk 0 rfl rfl)) rfl rfl) ?_
        refine S.gsil2 98 15 94 false rfl rfl rfl (lk 3 rfl rfl) (fun hB _ hF => .gtr (ifT hB (lk 2 rfl rfl)) (ifT hB (lk 0 rfl rfl))) ?_
        refine S.gsil2 99 10 89 true rfl rfl rfl (lk 9 rfl rfl) (fun hB _ hF => .pickOr (ifT hB (lk 4 rfl rfl)) cB (fun h => ifT ⟨hB, h⟩ (lk 0 rfl rfl))) ?_
        refine S.gsil 100 6 85 false rfl rfl rfl (lk 14 rfl rfl) (fun hB _ hF => .pickAnd (ifT hB (lk 10 rfl rfl)) (fun h => ifT ⟨hB, h⟩ (lk 0 rfl rfl)) cB) ?_
        obtain ⟨v15, ev15, h⟩ := h.nam
        refine S.sil 101 rfl rfl (fun _ hF => .nv (.pickOr (lk 15 rfl rfl) cB (fun h => ifT h (lk 0 rfl rfl))) (congrArg V.bool ev15.symm)) ?_
        refine S.nil ?_
        refine thenQ_n ?_
        refine AWp.prune (.eq (lk 0 rfl rfl) rfl (.eq (lk 30 rfl rfl) rfl (.eq (lk 31 rfl rfl) rfl (.eq (lk 35 rfl rfl) rfl (.eq (lk 36 rfl rfl) rfl (.eq (lk 37 rfl rfl) rfl (.eq (lk 38 rfl rfl) rfl (.eq (lk 39 rfl rfl) rfl (.eq (lk 40 rfl rfl) rfl .nil))))))))) ?_
        refine AWp.condM (lk 0 rfl rfl) h (fun c3 h => ?_) (fun c3 h => ?_)
        · skip
          refine AWp.seq ?_
          refine W.reg [0] rfl ?_
          refine S.sil 8 rfl rfl (fun _ hF => .assign cB) ?_
          refine S.nil ?_
          refine thenQ_n ?_
          refine AWp.ret ?_
          refine thenQ_r ?_
          obtain rfl := h.ret
          exact endF1 rfl (Wk.selS [] .nil rfl (SelE.leaf (lk 0 rfl rfl) rfl (.refl _) (fun m => (TyOk.bool.lt _ _)) .nil) .nil) (.tmp (lk 0 rfl rfl) rfl) rfl rfl
        · skip
          refine AWp.skip ?_
          refine thenQ_n ?_
          refine AWp.seq ?_
          refine AWp.seq ?_
          refine W.reg [0, 1] rfl ?_
          refine S.sil 102 rfl rfl (fun _ hF => .fieldAddrC lay51 rfl rfl (lk 5 rfl rfl) rfl flL_nil) ?_
          refine S.sil 103 rfl rfl (fun _ hF => .loadC sz3 ag3 (lk 0 rfl rfl) rfl rfl) ?_
          refine S.nil ?_
          refine thenQ_n ?_
          refine AWp.block ?_
          refine AWp.seq ?_
          refine W.reg [0, 1] rfl ?_
          refine S.sil 105 rfl rfl (fun _ hF => .eql (lk 0 rfl rfl) cI) ?_
          refine S.sil 104 rfl rfl (fun _ hF => .assign (lk 0 rfl rfl)) ?_
          refine S.nil ?_
          refine thenQ_n ?_
          refine AWp.condM (lk 0 rfl rfl) h (fun c4 h => ?_) (fun c4 h => ?_)
          · skip
            refine AWp.seq ?_
            refine W.reg [0, 1, 2, 3, 4, 5, 6, 7, 8, 9, 10, 11, 12, 13, 14, 15, 16, 17, 18, 19, 20, 21, 22, 23, 24, 25] rfl ?_
            refine S.sil 106 rfl rfl (fun _ hF => .move (lk 11 rfl rfl)) ?_
            refine S.sil 107 rfl rfl (fun _ hF => .fieldAddrC lay28 rfl rfl (lk 7 rfl rfl) rfl (flL_c (show flen _ = 1 from rfl) flL_nil)) ?_
            refine S.sil 108 rfl rfl (fun _ hF => .loadC sz3 ag3 (lk 0 rfl rfl) rfl rfl) ?_
            refine S.sil 109 rfl rfl (fun _ hF => .lss (lk 2 rfl rfl) (lk 0 rfl rfl)) ?_
            refine S.sil 110 rfl rfl (fun _ hF => .move (lk 0 rfl rfl)) ?_
            refine S.gsil 111 4 110 false rfl rfl rfl (lk 0 rfl rfl) (fun hB _ hF => .move (lk 16 rfl rfl)) ?_
            refine S.gsil 112 4 110 false rfl rfl rfl (lk 1 rfl rfl) (fun hB _ hF => .fieldAddrC lay28 rfl rfl (lk 12 rfl rfl) rfl (flL_c (show flen _ = 1 from rfl) (flL_c (show flen _ = 1 from rfl) flL_nil))) ?_
            refine S.gsil 113 4 110 false rfl rfl rfl (lk 2 rfl rfl) (fun hB _ hF => .loadC sz3 ag3 (ifT hB (lk 0 rfl rfl)) rfl rfl) ?_
            refine S.gsil 114 4 110 false rfl rfl rfl (lk 3 rfl rfl) (fun hB _ hF => .gtr (ifT hB (lk 2 rfl rfl)) (ifT hB (lk 0 rfl rfl))) ?_
            obtain ⟨v16, ev16, h⟩ := h.nam
            refine S.sil 115 rfl rfl (fun _ hF => .nv (.pickOr (lk 4 rfl rfl) cB (fun h => ifT h (lk 0 rfl rfl))) (congrArg V.bool ev16.symm)) ?_
            refine S.sil 116 rfl rfl (fun _ hF => .move (lk 0 rfl rfl)) ?_
            refine S.gsil 117 10 116 false rfl rfl rfl (lk 0 rfl rfl) (fun hB _ hF => .move (lk 22 rfl rfl)) ?_
            refine S.gsil 118 10 116 false rfl rfl rfl (lk 1 rfl rfl) (fun hB _ hF => .fieldAddrC lay28 rfl rfl (lk 17 rfl rfl) rfl (flL_c (show flen _ = 1 from rfl) flL_nil)) ?_
            refine S.gsil 119 10 116 false rfl rfl rfl (lk 2 rfl rfl) (fun hB _ hF => .loadC sz3 ag3 (ifT hB (lk 0 rfl rfl)) rfl rfl) ?_
            refine S.gsil 120 10 116 false rfl rfl rfl (lk 3 rfl rfl) (fun hB _ hF => .geq (ifT hB (lk 2 rfl rfl)) (ifT hB (lk 0 rfl rfl))) ?_
            refine S.gsil 121 10 116 false rfl rfl rfl (lk 4 rfl rfl) (fun hB _ hF => .move (ifT hB (lk 0 rfl rfl))) ?_
            refine S.gsil2 122 15 121 true rfl rfl rfl (lk 0 rfl rfl) (fun hB _ hF => .move (lk 27 rfl rfl)) ?_
            refine S.gsil2 123 15 121 true rfl rfl rfl (lk 1 rfl rfl) (fun hB _ hF => .fieldAddrC lay28 rfl rfl (lk 22 rfl rfl) rfl (flL_c (show flen _ = 1 from rfl) (flL_c (show flen _ = 1 from rfl) flL_nil))) ?_
            refine S.gsil2 124 15 121 true rfl rfl rfl (lk 2 rfl rfl) (fun hB _ hF => .loadC sz3 ag3 (ifT hB (lk 0 rfl rfl)) rfl rfl) ?_
            refine S.gsil2 125 15 121 true rfl rfl rfl (lk 3 rfl rfl) (fun hB _ hF => .leq (ifT hB (lk 2 rfl rfl)) (ifT hB (lk 0 rfl rfl))) ?_
            refine S.gsil 126 10 116 false rfl rfl rfl (lk 9 rfl rfl) (fun hB _ hF => .pickAnd (ifT hB (lk 4 rfl rfl)) (fun h => ifT ⟨hB, h⟩ (lk 0 rfl rfl)) cB) ?_
            obtain ⟨v17, ev17, h⟩ := h.nam
            refine S.sil 127 rfl rfl (fun _ hF => .nv (.pickOr (lk 10 rfl rfl) cB (fun h => ifT h (lk 0 rfl rfl))) (congrArg V.bool ev17.symm)) ?_
            refine S.sil 128 rfl rfl (fun _ hF => .move (lk 0 rfl rfl)) ?_
            obtain ⟨r18, m18, h⟩ := h.bnd
            refine S.gsil 129 22 128 true rfl rfl rfl (lk 0 rfl rfl) (fun hB _ hF => .callQ ent21 cF .nil (C_usufructlaw13_awake (gd_get m18 hB))) ?_
            refine S.sil 130 rfl rfl (fun _ hF => .pickAnd (lk 1 rfl rfl) (fun h => ifT h (lk 0 rfl rfl)) cB) ?_
            refine S.sil 8 rfl rfl (fun _ hF => .assign (lk 0 rfl rfl)) ?_
            refine S.nil ?_
            refine thenQ_n ?_
            refine AWp.prune (.eq (lk 0 rfl rfl) rfl .nil) ?_
            refine AWp.ret ?_
            refine blockQ_r ?_
            refine thenQ_r ?_
            obtain rfl := h.ret
            exact endF1 rfl (Wk.selS [] .nil rfl (SelE.leaf (lk 0 rfl rfl) rfl (.refl _) (fun m => (TyOk.bool.lt _ _)) .nil) .nil) (.tmp (lk 0 rfl rfl) rfl) rfl rfl
          · skip
            refine AWp.seq ?_
            refine W.reg [0, 1] rfl ?_
            refine S.sil 132 rfl rfl (fun _ hF => .eql (lk 2 rfl rfl) cI) ?_
            refine S.sil 131 rfl rfl (fun _ hF => .assign (lk 0 rfl rfl)) ?_
            refine S.nil ?_
            refine thenQ_n ?_
            refine AWp.condM (lk 0 rfl rfl) h (fun c5 h => ?_) (fun c5 h => ?_)
            · skip
              refine AWp.seq ?_
              refine W.reg [0, 1, 2, 3, 4, 5, 6, 7, 8, 9] rfl ?_
              refine S.sil 134 rfl rfl (fun _ hF => .move (lk 9 rfl rfl)) ?_
              refine S.sil 135 rfl rfl (fun _ hF => .fieldAddrC lay51 rfl rfl (lk 12 rfl rfl) rfl (flL_c (show flen _ = 1 from rfl) (flL_c (show flen _ = 1 from rfl) flL_nil))) ?_
              refine S.sil 136 rfl rfl (fun _ hF => .loadC sz9 ag9 (lk 0 rfl rfl) rfl rfl) ?_
              obtain ⟨r19, m19, h⟩ := h.bnd
              refine S.sil 137 rfl rfl (fun _ hF => .callQ ent24 cF (.c (lk 2 rfl rfl) (V.sub.refl _) (.c (lk 0 rfl rfl) (V.sub.refl _) .nil)) (C_usufructlaw13_one m19)) ?_
              refine S.sil 133 rfl rfl (fun _ hF => .move (lk 0 rfl rfl)) ?_
              refine S.sil 138 rfl rfl (fun _ hF => .extract (lk 0 rfl rfl) rfl) ?_
              refine S.sil 139 rfl rfl (fun _ hF => .extract (lk 1 rfl rfl) rfl) ?_
              refine S.eff 19 rfl rfl (.nf (v2 := .ptr 5 [] 0) (H2 := [.dead, .dead, .dead, .dead, .dead, .cells (.st [V.str (default : ByteArray), (V.int .i64) 0, (V.int .i64) 0, E_TCounter (default : TCounter), E_TLock (default : TLock), .nils])]) (.alloc zv33) rfl rfl) trivial ?_
              refine S.effN rfl rfl (.nf (H2 := [.dead, .dead, .dead, .dead, .dead, .cells (E_TField r19.1)]) (.storeP sz33 (lk 0 rfl rfl) (lk 2 rfl rfl) rfl (.refl _) rfl .nil (by first | rfl | omega) .nil (ty_TField.fl r19.1) (fl_st (flL_c (show flen _ = 1 from rfl) (flL_c (show flen _ = 1 from rfl) (flL_c (show flen _ = 1 from rfl) (flL_c (ty_TCounter.fl (default : TCounter)) (flL_c (ty_TLock.fl (default : TLock)) (flL_c (show flen _ = 1 from rfl) flL_nil))))))) rfl) rfl rfl) trivial ?_
              refine S.sil 20 rfl rfl (fun _ hF => .assign (lk 1 rfl rfl)) ?_
              refine S.nil ?_
              refine thenQ_n ?_
              refine AWp.wk (Wk.freeze 5 rfl rfl (.same (lk 0 rfl rfl) (.cons (lk 1 rfl rfl) rfl (.ptr .nil (by first | rfl | omega)) (.same (lk 16 rfl rfl) (.same (lk 17 rfl rfl) (.same (lk 19 rfl rfl) (.same (lk 22 rfl rfl) (.same (lk 23 rfl rfl) .nil))))))) (.refl _)) ?_
              refine AWp.seq ?_
              refine W.reg [0, 1, 2, 3] rfl ?_
              refine S.sil 140 rfl rfl (fun _ hF => .fieldAddrC lay33 rfl rfl (lk 1 rfl rfl) rfl (flL_c (show flen _ = 1 from rfl) (flL_c (show flen _ = 1 from rfl) (flL_c (show flen _ = 1 from rfl) flL_nil)))) ?_
              refine S.sil 141 rfl rfl (fun _ hF => .loadC sz28 ag28 (lk 0 rfl rfl) (ty_TCounter.fl r19.1.Counter) rfl) ?_
              refine S.eff 21 rfl rfl (.nf (v2 := .ptr 6 [] 0) (H2 := [.dead, .dead, .dead, .dead, .dead, .dead, .cells (E_TCounter (default : TCounter))]) (.alloc zv28) rfl rfl) trivial ?_
              refine S.effN rfl rfl (.nf (H2 := [.dead, .dead, .dead, .dead, .dead, .dead, .cells (E_TCounter r19.1.Counter)]) (.storeP sz28 (lk 0 rfl rfl) (lk 1 rfl rfl) rfl (.refl _) rfl .nil (by first | rfl | omega) .nil (ty_TCounter.fl r19.1.Counter) (ty_TCounter.fl (default : TCounter)) rfl) rfl rfl) trivial ?_
              refine S.nil ?_
              refine thenQ_n ?_
              refine AWp.wk (Wk.freeze 6 rfl rfl (.cons (lk 0 rfl rfl) rfl (.ptr .nil (by first | rfl | omega)) (.same (lk 3 rfl rfl) (.same (lk 5 rfl rfl) (.same (lk 6 rfl rfl) (.same (lk 7 rfl rfl) (.same (lk 8 rfl rfl) (.same (lk 9 rfl rfl) .nil))))))) (.refl _)) ?_
              refine AWp.seq ?_
              refine W.reg [0, 1, 2, 3, 4, 5, 6, 7, 8, 9, 10, 11, 12, 13, 14, 15, 16, 17, 18, 19, 20, 21, 22, 23, 24, 25, 26, 27, 28, 29, 30, 31, 32, 33, 34, 35, 36, 37, 38, 39, 40, 41, 42, 43, 44] rfl ?_
              refine S.sil 142 rfl rfl (fun _ hF => .move (lk 1 rfl rfl)) ?_
              refine S.sil 143 rfl rfl (fun _ hF => .move (lk 0 rfl rfl)) ?_
              refine S.gsil 144 1 143 true rfl rfl rfl (lk 0 rfl rfl) (fun hB _ hF => .move (lk 7 rfl rfl)) ?_
              refine S.gsil 145 1 143 true rfl rfl rfl (lk 1 rfl rfl) (fun hB _ hF => .fieldAddrC lay28 rfl rfl (lk 6 rfl rfl) rfl (flL_c (show flen _ = 1 from rfl) flL_nil)) ?_
              refine S.gsil 146 1 143 true rfl rfl rfl (lk 2 rfl rfl) (fun hB _ hF => .loadC sz3 ag3 (ifT hB (lk 0 rfl rfl)) rfl rfl) ?_
              refine S.gsil 147 1 143 true rfl rfl rfl (lk 3 rfl rfl) (fun hB _ hF => .lss (ifT hB (lk 2 rfl rfl)) (ifT hB (lk 0 rfl rfl))) ?_
              refine S.gsil 148 1 143 true rfl rfl rfl (lk 4 rfl rfl) (fun hB _ hF => .move (ifT hB (lk 0 rfl rfl))) ?_
              refine S.gsil2 149 6 148 false rfl rfl rfl (lk 0 rfl rfl) (fun hB _ hF => .move (lk 12 rfl rfl)) ?_
              refine S.gsil2 150 6 148 false rfl rfl rfl (lk 1 rfl rfl) (fun hB _ hF => .fieldAddrC lay28 rfl rfl (lk 11 rfl rfl) rfl (flL_c (show flen _ = 1 from rfl) (flL_c (show flen _ = 1 from rfl) flL_nil))) ?_
              refine S.gsil2 151 6 148 false rfl rfl rfl (lk 2 rfl rfl) (fun hB _ hF => .loadC sz3 ag3 (ifT hB (lk 0 rfl rfl)) rfl rfl) ?_
              refine S.gsil2 152 6 148 false rfl rfl rfl (lk 3 rfl rfl) (fun hB _ hF => .gtr (ifT hB (lk 2 rfl rfl)) (ifT hB (lk 0 rfl rfl))) ?_
              refine S.gsil 153 1 143 true rfl rfl rfl (lk 9 rfl rfl) (fun hB _ hF => .pickOr (ifT hB (lk 4 rfl rfl)) cB (fun h => ifT ⟨hB, h⟩ (lk 0 rfl rfl))) ?_
              refine S.gsil 154 1 143 true rfl rfl rfl (lk 10 rfl rfl) (fun hB _ hF => .move (ifT hB (lk 0 rfl rfl))) ?_
              refine S.gsil2 155 12 154 false rfl rfl rfl (lk 0 rfl rfl) (fun hB _ hF => .move (lk 19 rfl rfl)) ?_
              refine S.gsil2 156 12 154 false rfl rfl rfl (lk 1 rfl rfl) (fun hB _ hF => .fieldAddrC lay28 rfl rfl (lk 14 rfl rfl) rfl (flL_c (show flen _ = 1 from rfl) flL_nil)) ?_
              refine S.gsil2 157 12 154 false rfl rfl rfl (lk 2 rfl rfl) (fun hB _ hF => .loadC sz3 ag3 (ifT hB (lk 0 rfl rfl)) rfl rfl) ?_
              refine S.gsil2 158 12 154 false rfl rfl rfl (lk 3 rfl rfl) (fun hB _ hF => .lss (ifT hB (lk 2 rfl rfl)) (ifT hB (lk 0 rfl rfl))) ?_
              refine S.gsil 159 1 143 true rfl rfl rfl (lk 15 rfl rfl) (fun hB _ hF => .pickOr (ifT hB (lk 4 rfl rfl)) cB (fun h => ifT ⟨hB, h⟩ (lk 0 rfl rfl))) ?_
              refine S.gsil 160 1 143 true rfl rfl rfl (lk 16 rfl rfl) (fun hB _ hF => .move (ifT hB (lk 0 rfl rfl))) ?_
              refine S.gsil2 161 18 160 false rfl rfl rfl (lk 0 rfl rfl) (fun hB _ hF => .move (lk 25 rfl rfl)) ?_
              refine S.gsil2 162 18 160 false rfl rfl rfl (lk 1 rfl rfl) (fun hB _ hF => .fieldAddrC lay28 rfl rfl (lk 20 rfl rfl) rfl (flL_c (show flen _ = 1 from rfl) (flL_c (show flen _ = 1 from rfl) flL_nil))) ?_
              refine S.gsil2 163 18 160 false rfl rfl rfl (lk 2 rfl rfl) (fun hB _ hF => .loadC sz3 ag3 (ifT hB (lk 0 rfl rfl)) rfl rfl) ?_
              refine S.gsil2 164 18 160 false rfl rfl rfl (lk 3 rfl rfl) (fun hB _ hF => .gtr (ifT hB (lk 2 rfl rfl)) (ifT hB (lk 0 rfl rfl))) ?_
              refine S.gsil 165 1 143 true rfl rfl rfl (lk 21 rfl rfl) (fun hB _ hF => .pickOr (ifT hB (lk 4 rfl rfl)) cB (fun h => ifT ⟨hB, h⟩ (lk 0 rfl rfl))) ?_
              refine S.gsil 166 1 143 true rfl rfl rfl (lk 22 rfl rfl) (fun hB _ hF => .move (ifT hB (lk 0 rfl rfl))) ?_
              refine S.gsil2 167 24 166 false rfl rfl rfl (lk 0 rfl rfl) (fun hB _ hF => .move (lk 30 rfl rfl)) ?_
              refine S.gsil2 168 24 166 false rfl rfl rfl (lk 1 rfl rfl) (fun hB _ hF => .move (lk 32 rfl rfl)) ?_
              refine S.gsil2 169 24 166 false rfl rfl rfl (lk 2 rfl rfl) (fun hB _ hF => .add (ifT hB (lk 1 rfl rfl)) (ifT hB (lk 0 rfl rfl))) ?_
              refine S.gsil2 170 24 166 false rfl rfl rfl (lk 3 rfl rfl) (fun hB _ hF => .fieldAddrC lay28 rfl rfl (lk 30 rfl rfl) rfl (flL_c (show flen _ = 1 from rfl) flL_nil)) ?_
              refine S.gsil2 171 24 166 false rfl rfl rfl (lk 4 rfl rfl) (fun hB _ hF => .loadC sz3 ag3 (ifT hB (lk 0 rfl rfl)) rfl rfl) ?_
              refine S.gsil2 172 24 166 false rfl rfl rfl (lk 5 rfl rfl) (fun hB _ hF => .geq (ifT hB (lk 2 rfl rfl)) (ifT hB (lk 0 rfl rfl))) ?_
              refine S.gsil2 173 24 166 false rfl rfl rfl (lk 6 rfl rfl) (fun hB _ hF => .move (ifT hB (lk 0 rfl rfl))) ?_
              refine S.gsil2 174 31 173 true rfl rfl rfl (lk 0 rfl rfl) (fun hB _ hF => .move (lk 37 rfl rfl)) ?_
              refine S.gsil2 175 31 173 true rfl rfl rfl (lk 1 rfl rfl) (fun hB _ hF => .move (lk 39 rfl rfl)) ?_
              refine S.gsil2 176 31 173 true rfl rfl rfl (lk 2 rfl rfl) (fun hB _ hF => .add (ifT hB (lk 1 rfl rfl)) (ifT hB (lk 0 rfl rfl))) ?_
              refine S.gsil2 177 31 173 true rfl rfl rfl (lk 3 rfl rfl) (fun hB _ hF => .fieldAddrC lay28 rfl rfl (lk 37 rfl rfl) rfl (flL_c (show flen _ = 1 from rfl) (flL_c (show flen _ = 1 from rfl) flL_nil))) ?_
              refine S.gsil2 178 31 173 true rfl rfl rfl (lk 4 rfl rfl) (fun hB _ hF => .loadC sz3 ag3 (ifT hB (lk 0 rfl rfl)) rfl rfl) ?_
              refine S.gsil2 179 31 173 true rfl rfl rfl (lk 5 rfl rfl) (fun hB _ hF => .leq (ifT hB (lk 2 rfl rfl)) (ifT hB (lk 0 rfl rfl))) ?_
              refine S.gsil2 180 24 166 false rfl rfl rfl (lk 13 rfl rfl) (fun hB _ hF => .pickAnd (ifT hB (lk 6 rfl rfl)) (fun h => ifT ⟨hB, h⟩ (lk 0 rfl rfl)) cB) ?_
              refine S.gsil 181 1 143 true rfl rfl rfl (lk 37 rfl rfl) (fun hB _ hF => .pickOr (ifT hB (lk 14 rfl rfl)) cB (fun h => ifT ⟨hB, h⟩ (lk 0 rfl rfl))) ?_
              obtain ⟨v20, ev20, h⟩ := h.nam
              refine S.sil 182 rfl rfl (fun _ hF => .nv (.pickAnd (lk 38 rfl rfl) (fun h => ifT h (lk 0 rfl rfl)) cB) (congrArg V.bool ev20.symm)) ?_
              refine S.sil 183 rfl rfl (fun _ hF => .move (lk 0 rfl rfl)) ?_
              obtain ⟨r21, m21, h⟩ := h.bnd
              refine S.gsil 184 41 183 true rfl rfl rfl (lk 0 rfl rfl) (fun hB _ hF => .callQ ent21 cF .nil (C_usufructlaw13_awake (gd_get m21 hB))) ?_
              refine S.sil 185 rfl rfl (fun _ hF => .pickAnd (lk 1 rfl rfl) (fun h => ifT h (lk 0 rfl rfl)) cB) ?_
              refine S.sil 8 rfl rfl (fun _ hF => .assign (lk 0 rfl rfl)) ?_
              refine S.nil ?_
              refine thenQ_n ?_
              refine AWp.prune (.eq (lk 0 rfl rfl) rfl .nil) ?_
              refine AWp.ret ?_
              refine blockQ_r ?_
              refine thenQ_r ?_
              obtain rfl := h.ret
              exact endF1 rfl (Wk.selS [] .nil rfl (SelE.leaf (lk 0 rfl rfl) rfl (.refl _) (fun m => (TyOk.bool.lt _ _)) .nil) .nil) (.tmp (lk 0 rfl rfl) rfl) rfl rfl
            · skip
              refine AWp.seq ?_
              refine W.reg [0, 1] rfl ?_
              refine S.sil 187 rfl rfl (fun _ hF => .eql (lk 4 rfl rfl) cI) ?_
              refine S.sil 186 rfl rfl (fun _ hF => .assign (lk 0 rfl rfl)) ?_
              refine S.nil ?_
              refine thenQ_n ?_
              refine AWp.prune (.eq (lk 0 rfl rfl) rfl (.eq (lk 9 rfl rfl) rfl (.eq (lk 10 rfl rfl) rfl (.eq (lk 12 rfl rfl) rfl (.eq (lk 13 rfl rfl) rfl (.eq (lk 14 rfl rfl) rfl .nil)))))) ?_
              refine AWp.condM (lk 0 rfl rfl) h (fun c6 h => ?_) (fun c6 h => ?_)
              · skip
                refine AWp.seq ?_
                refine W.reg [0, 1, 2, 3, 4, 5, 6, 7, 8, 9] rfl ?_
                refine S.sil 189 rfl rfl (fun _ hF => .move (lk 5 rfl rfl)) ?_
                refine S.sil 190 rfl rfl (fun _ hF => .fieldAddrC lay51 rfl rfl (lk 5 rfl rfl) rfl (flL_c (show flen _ = 1 from rfl) (flL_c (show flen _ = 1 from rfl) flL_nil))) ?_
                refine S.sil 191 rfl rfl (fun _ hF => .loadC sz9 ag9 (lk 0 rfl rfl) rfl rfl) ?_
                obtain ⟨r22, m22, h⟩ := h.bnd
                refine S.sil 192 rfl rfl (fun _ hF => .callQ ent24 cF (.c (lk 2 rfl rfl) (V.sub.refl _) (.c (lk 0 rfl rfl) (V.sub.refl _) .nil)) (C_usufructlaw13_one m22)) ?_
                refine S.sil 188 rfl rfl (fun _ hF => .move (lk 0 rfl rfl)) ?_
                refine S.sil 193 rfl rfl (fun _ hF => .extract (lk 0 rfl rfl) rfl) ?_
                refine S.sil 194 rfl rfl (fun _ hF => .extract (lk 1 rfl rfl) rfl) ?_
                refine S.eff 22 rfl rfl (.nf (v2 := .ptr 5 [] 0) (H2 := [.dead, .dead, .dead, .dead, .dead, .cells (.st [V.str (default : ByteArray), (V.int .i64) 0, (V.int .i64) 0, E_TCounter (default : TCounter), E_TLock (default : TLock), .nils])]) (.alloc zv33) rfl rfl) trivial ?_
                refine S.effN rfl rfl (.nf (H2 := [.dead, .dead, .dead, .dead, .dead, .cells (E_TField r22.1)]) (.storeP sz33 (lk 0 rfl rfl) (lk 2 rfl rfl) rfl (.refl _) rfl .nil (by first | rfl | omega) .nil (ty_TField.fl r22.1) (fl_st (flL_c (show flen _ = 1 from rfl) (flL_c (show flen _ = 1 from rfl) (flL_c (show flen _ = 1 from rfl) (flL_c (ty_TCounter.fl (default : TCounter)) (flL_c (ty_TLock.fl (default : TLock)) (flL_c (show flen _ = 1 from rfl) flL_nil))))))) rfl) rfl rfl) trivial ?_
                refine S.sil 23 rfl rfl (fun _ hF => .assign (lk 1 rfl rfl)) ?_
                refine S.nil ?_
                refine thenQ_n ?_
                refine AWp.wk (Wk.freeze 5 rfl rfl (.same (lk 0 rfl rfl) (.cons (lk 1 rfl rfl) rfl (.ptr .nil (by first | rfl | omega)) (.same (lk 10 rfl rfl) (.same (lk 11 rfl rfl) (.same (lk 12 rfl rfl) .nil))))) (.refl _)) ?_
                refine AWp.seq ?_
                refine W.reg [0, 1, 2, 3] rfl ?_
                refine S.sil 195 rfl rfl (fun _ hF => .fieldAddrC lay33 rfl rfl (lk 1 rfl rfl) rfl (flL_c (show flen _ = 1 from rfl) (flL_c (show flen _ = 1 from rfl) (flL_c (show flen _ = 1 from rfl) flL_nil)))) ?_
                refine S.sil 196 rfl rfl (fun _ hF => .loadC sz28 ag28 (lk 0 rfl rfl) (ty_TCounter.fl r22.1.Counter) rfl) ?_
                refine S.eff 24 rfl rfl (.nf (v2 := .ptr 6 [] 0) (H2 := [.dead, .dead, .dead, .dead, .dead, .dead, .cells (E_TCounter (default : TCounter))]) (.alloc zv28) rfl rfl) trivial ?_
                refine S.effN rfl rfl (.nf (H2 := [.dead, .dead, .dead, .dead, .dead, .dead, .cells (E_TCounter r22.1.Counter)]) (.storeP sz28 (lk 0 rfl rfl) (lk 1 rfl rfl) rfl (.refl _) rfl .nil (by first | rfl | omega) .nil (ty_TCounter.fl r22.1.Counter) (ty_TCounter.fl (default : TCounter)) rfl) rfl rfl) trivial ?_
                refine S.nil ?_
                refine thenQ_n ?_
                refine AWp.wk (Wk.freeze 6 rfl rfl (.cons (lk 0 rfl rfl) rfl (.ptr .nil (by first | rfl | omega)) (.same (lk 3 rfl rfl) (.same (lk 5 rfl rfl) (.same (lk 6 rfl rfl) (.same (lk 7 rfl rfl) .nil))))) (.refl _)) ?_
                refine AWp.seq ?_
                refine W.reg [0, 1, 2, 3, 4, 5, 6, 7, 8, 9, 10, 11, 12, 13, 14, 15, 16, 17, 18, 19, 20, 21, 22, 23, 24] rfl ?_
                refine S.sil 197 rfl rfl (fun _ hF => .move (lk 1 rfl rfl)) ?_
                refine S.sil 198 rfl rfl (fun _ hF => .move (lk 0 rfl rfl)) ?_
                refine S.gsil 199 1 198 true rfl rfl rfl (lk 0 rfl rfl) (fun hB _ hF => .fieldAddrC lay28 rfl rfl (lk 5 rfl rfl) rfl (flL_c (show flen _ = 1 from rfl) flL_nil)) ?_
                refine S.gsil 200 1 198 true rfl rfl rfl (lk 1 rfl rfl) (fun hB _ hF => .loadC sz3 ag3 (ifT hB (lk 0 rfl rfl)) rfl rfl) ?_
                refine S.gsil 201 1 198 true rfl rfl rfl (lk 2 rfl rfl) (fun hB _ hF => .fieldAddrC lay28 rfl rfl (lk 6 rfl rfl) rfl (flL_c (show flen _ = 1 from rfl) flL_nil)) ?_
                refine S.gsil 202 1 198 true rfl rfl rfl (lk 3 rfl rfl) (fun hB _ hF => .loadC sz3 ag3 (ifT hB (lk 0 rfl rfl)) rfl rfl) ?_
                refine S.gsil 203 1 198 true rfl rfl rfl (lk 4 rfl rfl) (fun hB _ hF => .fieldAddrC lay28 rfl rfl (lk 6 rfl rfl) rfl (flL_c (show flen _ = 1 from rfl) flL_nil)) ?_
                refine S.gsil 204 1 198 true rfl rfl rfl (lk 5 rfl rfl) (fun hB _ hF => .loadC sz3 ag3 (ifT hB (lk 0 rfl rfl)) rfl rfl) ?_
                refine S.gsil 205 1 198 true rfl rfl rfl (lk 6 rfl rfl) (fun hB _ hF => .add (ifT hB (lk 2 rfl rfl)) (ifT hB (lk 0 rfl rfl))) ?_
                refine S.gsil 206 1 198 true rfl rfl rfl (lk 7 rfl rfl) (fun hB _ hF => .eql (ifT hB (lk 5 rfl rfl)) (ifT hB (lk 0 rfl rfl))) ?_
                obtain ⟨v23, ev23, h⟩ := h.nam
                refine S.sil 207 rfl rfl (fun _ hF => .nv (.pickAnd (lk 8 rfl rfl) (fun h => ifT h (lk 0 rfl rfl)) cB) (congrArg V.bool ev23.symm)) ?_
                refine S.sil 208 rfl rfl (fun _ hF => .move (lk 0 rfl rfl)) ?_
                refine S.gsil 209 11 208 true rfl rfl rfl (lk 0 rfl rfl) (fun hB _ hF => .fieldAddrC lay28 rfl rfl (lk 15 rfl rfl) rfl (flL_c (show flen _ = 1 from rfl) (flL_c (show flen _ = 1 from rfl) flL_nil))) ?_
                refine S.gsil 210 11 208 true rfl rfl rfl (lk 1 rfl rfl) (fun hB _ hF => .loadC sz3 ag3 (ifT hB (lk 0 rfl rfl)) rfl rfl) ?_
                refine S.gsil 211 11 208 true rfl rfl rfl (lk 2 rfl rfl) (fun hB _ hF => .fieldAddrC lay28 rfl rfl (lk 16 rfl rfl) rfl (flL_c (show flen _ = 1 from rfl) (flL_c (show flen _ = 1 from rfl) flL_nil))) ?_
                refine S.gsil 212 11 208 true rfl rfl rfl (lk 3 rfl rfl) (fun hB _ hF => .loadC sz3 ag3 (ifT hB (lk 0 rfl rfl)) rfl rfl) ?_
                refine S.gsil 213 11 208 true rfl rfl rfl (lk 4 rfl rfl) (fun hB _ hF => .fieldAddrC lay28 rfl rfl (lk 16 rfl rfl) rfl (flL_c (show flen _ = 1 from rfl) (flL_c (show flen _ = 1 from rfl) flL_nil))) ?_
                refine S.gsil 214 11 208 true rfl rfl rfl (lk 5 rfl rfl) (fun hB _ hF => .loadC sz3 ag3 (ifT hB (lk 0 rfl rfl)) rfl rfl) ?_
                refine S.gsil 215 11 208 true rfl rfl rfl (lk 6 rfl rfl) (fun hB _ hF => .add (ifT hB (lk 2 rfl rfl)) (ifT hB (lk 0 rfl rfl))) ?_
                refine S.gsil 216 11 208 true rfl rfl rfl (lk 7 rfl rfl) (fun hB _ hF => .eql (ifT hB (lk 5 rfl rfl)) (ifT hB (lk 0 rfl rfl))) ?_
                obtain ⟨v24, ev24, h⟩ := h.nam
                refine S.sil 217 rfl rfl (fun _ hF => .nv (.pickAnd (lk 8 rfl rfl) (fun h => ifT h (lk 0 rfl rfl)) cB) (congrArg V.bool ev24.symm)) ?_
                refine S.sil 218 rfl rfl (fun _ hF => .move (lk 0 rfl rfl)) ?_
                obtain ⟨r25, m25, h⟩ := h.bnd
                refine S.gsil 219 21 218 true rfl rfl rfl (lk 0 rfl rfl) (fun hB _ hF => .callQ ent21 cF .nil (C_usufructlaw13_awake (gd_get m25 hB))) ?_
                refine S.sil 220 rfl rfl (fun _ hF => .pickAnd (lk 1 rfl rfl) (fun h => ifT h (lk 0 rfl rfl)) cB) ?_
                refine S.sil 8 rfl rfl (fun _ hF => .assign (lk 0 rfl rfl)) ?_
                refine S.nil ?_
                refine thenQ_n ?_
                refine AWp.prune (.eq (lk 0 rfl rfl) rfl .nil) ?_
                refine AWp.ret ?_
                refine blockQ_r ?_
                refine thenQ_r ?_
                obtain rfl := h.ret
                exact endF1 rfl (Wk.selS [] .nil rfl (SelE.leaf (lk 0 rfl rfl) rfl (.refl _) (fun m => (TyOk.bool.lt _ _)) .nil) .nil) (.tmp (lk 0 rfl rfl) rfl) rfl rfl
              · skip
                refine AWp.skip ?_
                refine blockQ_n ?_
                refine thenQ_n ?_
                refine AWp.seq ?_
                refine W.reg [0, 1] rfl ?_
                obtain ⟨r26, m26, h⟩ := h.bnd
                refine S.sil 221 rfl rfl (fun _ hF => .callQ ent21 cF .nil (C_usufructlaw13_awake m26)) ?_
                refine S.sil 8 rfl rfl (fun _ hF => .assign (lk 0 rfl rfl)) ?_
                refine S.nil ?_
                refine thenQ_n ?_
                refine AWp.ret ?_
                obtain rfl := h.ret
                exact endF1 rfl (Wk.selS [] .nil rfl (SelE.leaf (lk 0 rfl rfl) rfl (.refl _) (fun m => (TyOk.bool.lt _ _)) .nil) .nil) (.tmp (lk 0 rfl rfl) rfl) rfl rfl
end Go.Av
