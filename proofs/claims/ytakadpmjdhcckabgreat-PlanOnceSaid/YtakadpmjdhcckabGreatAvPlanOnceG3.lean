/- Each function tells what its mirror tells. -/
import Derived.Test.YtakadpmjdhcckabGreatAvPlanOnceG2
import Derived.Test.YtakadpmjdhcckabGreatProg
import Derived.KernelRfl
namespace Go.Av
set_option linter.unusedSectionVars false
open Go.Proofs
set_option linter.unusedVariables false
set_option linter.unusedSimpArgs false
set_option maxHeartbeats 4000000
set_option maxRecDepth 10000
theorem C_usufructlaw13_awake  {r : Bool} (h : usufructlaw13_awake = some r) : PureC Pg 11 [] (V.bool r) := by
  refine PureC.ofF (CallSpec.of_bodyF 62 0 fn11 rfl rfl rfl (Nat.le_of_ble_eq_true rfl) ?_) ltL_nil (TyOk.bool.lt _ _)
  replace h := Ok.of h
  unfold usufructlaw13_awake at h
  refine AWp.seq ?_
  refine W.reg [0] rfl ?_
  refine S.sil 0 rfl rfl (fun _ hF => .assign cB) ?_
  refine S.nil ?_
  refine thenQ_n ?_
  refine AWp.seq ?_
  refine W.reg [0, 1, 2, 3, 4, 5, 6] rfl ?_
  obtain ⟨r1, m1, h⟩ := h.bnd
  refine S.sil 8 rfl rfl (fun _ hF => .callQ ent44 cF (.c cS (V.sub.refl _) (.c cI (V.sub.refl _) (.c cI (V.sub.refl _) (.c cI (V.sub.refl _) .nil)))) (C_field_Counter m1)) ?_
  refine S.sil 7 rfl rfl (fun _ hF => .move (lk 0 rfl rfl)) ?_
  refine S.sil 9 rfl rfl (fun _ hF => .extract (lk 0 rfl rfl) rfl) ?_
  refine S.sil 10 rfl rfl (fun _ hF => .extract (lk 1 rfl rfl) rfl) ?_
  refine S.eff 1 rfl rfl (.nf (v2 := .ptr 0 [] 0) (H2 := [.cells (.st [V.str (default : ByteArray), (V.int .i64) 0, (V.int .i64) 0, E_TCounter (default : TCounter), E_TLock (default : TLock), .nils])]) (.alloc zv42) rfl rfl) trivial ?_
  refine S.effN rfl rfl (.nf (H2 := [.cells (E_TField r1.1)]) (.storeP sz42 (lk 0 rfl rfl) (lk 2 rfl rfl) rfl (.refl _) rfl .nil (by first | rfl | omega) .nil (ty_TField.fl r1.1) (fl_st (flL_c (show flen _ = 1 from rfl) (flL_c (show flen _ = 1 from rfl) (flL_c (show flen _ = 1 from rfl) (flL_c (ty_TCounter.fl (default : TCounter)) (flL_c (ty_TLock.fl (default : TLock)) (flL_c (show flen _ = 1 from rfl) flL_nil))))))) rfl) rfl rfl) trivial ?_
  refine S.sil 2 rfl rfl (fun _ hF => .assign (lk 1 rfl rfl)) ?_
  refine S.nil ?_
  refine thenQ_n ?_
  refine AWp.wk (Wk.freeze 0 rfl rfl (.cons (lk 1 rfl rfl) rfl (.ptr .nil (by first | rfl | omega)) (.same (lk 6 rfl rfl) .nil)) (.refl _)) ?_
  refine AWp.seq ?_
  refine W.reg [0, 1, 2, 3, 4, 5, 6, 7, 8] rfl ?_
  refine S.sil 12 rfl rfl (fun _ hF => .loadC sz42 ag42 (lk 0 rfl rfl) (ty_TField.fl r1.1) rfl) ?_
  refine S.sil 13 rfl rfl (fun _ hF => .buildSliceW sli22 zv42 rfl rfl (by decide) (.cons (lk 0 rfl rfl) rfl (.refl _) (ty_TField.fl r1.1) .nil)) ?_
  obtain ⟨v2, ev2, h⟩ := h.nam
  refine S.sil 14 rfl rfl (fun _ hF => .nv (.nv (v2 := E_TPlan (⟨5, (⟨#[97]⟩ : ByteArray), (⟨#[98]⟩ : ByteArray), 5, 0⟩ : TPlan)) (.buildStW lay24 zv24 rfl (.cons cI rfl rfl rfl rfl (.cons cS rfl rfl rfl rfl (.cons cS rfl rfl rfl rfl (.cons cI rfl rfl rfl rfl .nil))))) rfl) (congrArg E_TPlan ev2.symm)) ?_
  obtain ⟨r3, m3, h⟩ := h.bnd
  refine S.sil 15 rfl rfl (fun _ hF => .callQ ent12 cF (.c (lk 1 rfl rfl) (vsub rfl (.forget _ _ _)) (.c (lk 0 rfl rfl) (V.sub.refl _) .nil)) (C_plan_Apply m3)) ?_
  refine S.sil 11 rfl rfl (fun _ hF => .move (lk 0 rfl rfl)) ?_
  refine S.sil 16 rfl rfl (fun _ hF => .extract (lk 0 rfl rfl) rfl) ?_
  refine S.sil 17 rfl rfl (fun _ hF => .extract (lk 1 rfl rfl) rfl) ?_
  refine S.sil 3 rfl rfl (fun _ hF => .assign (lk 1 rfl rfl)) ?_
  refine S.sil 4 rfl rfl (fun _ hF => .assign (lk 1 rfl rfl)) ?_
  refine S.nil ?_
  refine thenQ_n ?_
  refine AWp.seq ?_
  refine W.reg [0, 1, 2, 3, 4, 5, 6] rfl ?_
  refine S.sil 19 rfl rfl (fun _ hF => .move (lk 1 rfl rfl)) ?_
  obtain ⟨r4, m4, h⟩ := h.bnd
  refine S.sil 20 rfl rfl (fun _ hF => .callQ ent50 cF (.c (lk 0 rfl rfl) (V.sub.refl _) .nil) (C_plan_Total m4)) ?_
  refine S.sil 18 rfl rfl (fun _ hF => .move (lk 0 rfl rfl)) ?_
  refine S.sil 21 rfl rfl (fun _ hF => .extract (lk 0 rfl rfl) rfl) ?_
  refine S.sil 22 rfl rfl (fun _ hF => .extract (lk 1 rfl rfl) rfl) ?_
  refine S.sil 5 rfl rfl (fun _ hF => .assign (lk 1 rfl rfl)) ?_
  refine S.sil 6 rfl rfl (fun _ hF => .assign (lk 1 rfl rfl)) ?_
  refine S.nil ?_
  refine thenQ_n ?_
  refine AWp.prune (.eq (lk 0 rfl rfl) rfl (.eq (lk 1 rfl rfl) rfl (.eq (lk 7 rfl rfl) rfl (.eq (lk 8 rfl rfl) rfl (.eq (lk 17 rfl rfl) rfl .nil))))) ?_
  refine AWp.seq ?_
  refine W.reg [0, 1, 2, 3, 4, 5, 6, 7, 8, 9, 10, 11, 12, 13, 14, 15, 16, 17, 18, 19, 20, 21, 22, 23, 24, 25, 26, 27, 28, 29, 30, 31, 32, 33, 34, 35, 36, 37, 38, 39] rfl ?_
  refine S.sil 23 rfl rfl (fun _ hF => .move (lk 2 rfl rfl)) ?_
  refine S.sil 24 rfl rfl (fun _ hF => .eql (lk 0 rfl rfl) cI) ?_
  refine S.sil 25 rfl rfl (fun _ hF => .move (lk 0 rfl rfl)) ?_
  refine S.gsil 26 2 25 true rfl rfl rfl (lk 0 rfl rfl) (fun hB _ hF => .move (lk 6 rfl rfl)) ?_
  refine S.gsil 27 2 25 true rfl rfl rfl (lk 1 rfl rfl) (fun hB _ hF => .lenT sli22 (ifT hB (lk 0 rfl rfl)) (vsub rfl (.refl _))) ?_
  refine S.gsil 28 2 25 true rfl rfl rfl (lk 2 rfl rfl) (fun hB _ hF => .eql (ifT hB (lk 0 rfl rfl)) cI) ?_
  refine S.sil 29 rfl rfl (fun _ hF => .pickAnd (lk 3 rfl rfl) (fun h => ifT h (lk 0 rfl rfl)) cB) ?_
  refine S.sil 30 rfl rfl (fun _ hF => .move (lk 0 rfl rfl)) ?_
  refine S.gsil 31 7 30 true rfl rfl rfl (lk 0 rfl rfl) (fun hB _ hF => .move (lk 11 rfl rfl)) ?_
  obtain ⟨j5, m5, h⟩ := h.bnd
  refine S.gsil 32 7 30 true rfl rfl rfl (lk 1 rfl rfl) (fun hB _ hF => .ixS sli22 (ifT hB (lk 0 rfl rfl)) cI (gd_get m5 hB)) ?_
  refine S.gsil 33 7 30 true rfl rfl rfl (lk 2 rfl rfl) (fun hB _ hF => .fieldAddrC lay42 rfl rfl (ifT hB (lk 0 rfl rfl)) rfl (flL_c (show flen _ = 1 from rfl) (flL_c (show flen _ = 1 from rfl) (flL_c (show flen _ = 1 from rfl) flL_nil)))) ?_
  refine S.gsil 34 7 30 true rfl rfl rfl (lk 3 rfl rfl) (fun hB _ hF => .fieldAddrC lay37 rfl rfl (ifT hB (lk 0 rfl rfl)) rfl flL_nil) ?_
  refine S.gsil 35 7 30 true rfl rfl rfl (lk 4 rfl rfl) (fun hB _ hF => .loadC sz3 ag3 (ifT hB (lk 0 rfl rfl)) rfl rfl) ?_
  refine S.gsil 36 7 30 true rfl rfl rfl (lk 5 rfl rfl) (fun hB _ hF => .eql (ifT hB (lk 0 rfl rfl)) cI) ?_
  obtain ⟨v6, ev6, h⟩ := h.nam
  refine S.sil 37 rfl rfl (fun _ hF => .nv (.pickAnd (lk 6 rfl rfl) (fun h => ifT h (lk 0 rfl rfl)) cB) (congrArg V.bool ev6.symm)) ?_
  refine S.sil 38 rfl rfl (fun _ hF => .move (lk 0 rfl rfl)) ?_
  refine S.gsil 39 15 38 true rfl rfl rfl (lk 0 rfl rfl) (fun hB _ hF => .move (lk 19 rfl rfl)) ?_
  obtain ⟨j7, m7, h⟩ := h.bnd
  refine S.gsil 40 15 38 true rfl rfl rfl (lk 1 rfl rfl) (fun hB _ hF => .ixS sli22 (ifT hB (lk 0 rfl rfl)) cI (gd_get m7 hB)) ?_
  refine S.gsil 41 15 38 true rfl rfl rfl (lk 2 rfl rfl) (fun hB _ hF => .fieldAddrC lay42 rfl rfl (ifT hB (lk 0 rfl rfl)) rfl (flL_c (show flen _ = 1 from rfl) (flL_c (show flen _ = 1 from rfl) (flL_c (show flen _ = 1 from rfl) flL_nil)))) ?_
  refine S.gsil 42 15 38 true rfl rfl rfl (lk 3 rfl rfl) (fun hB _ hF => .fieldAddrC lay37 rfl rfl (ifT hB (lk 0 rfl rfl)) rfl flL_nil) ?_
  refine S.gsil 43 15 38 true rfl rfl rfl (lk 4 rfl rfl) (fun hB _ hF => .loadC sz3 ag3 (ifT hB (lk 0 rfl rfl)) rfl rfl) ?_
  refine S.gsil 44 15 38 true rfl rfl rfl (lk 5 rfl rfl) (fun hB _ hF => .eql (ifT hB (lk 0 rfl rfl)) cI) ?_
  refine S.sil 45 rfl rfl (fun _ hF => .pickAnd (lk 6 rfl rfl) (fun h => ifT h (lk 0 rfl rfl)) cB) ?_
  refine S.sil 46 rfl rfl (fun _ hF => .move (lk 0 rfl rfl)) ?_
  refine S.gsil 47 23 46 true rfl rfl rfl (lk 0 rfl rfl) (fun hB _ hF => .move (lk 27 rfl rfl)) ?_
  obtain ⟨j8, m8, h⟩ := h.bnd
  refine S.gsil 48 23 46 true rfl rfl rfl (lk 1 rfl rfl) (fun hB _ hF => .ixS sli22 (ifT hB (lk 0 rfl rfl)) cI (gd_get m8 hB)) ?_
  refine S.gsil 49 23 46 true rfl rfl rfl (lk 2 rfl rfl) (fun hB _ hF => .fieldAddrC lay42 rfl rfl (ifT hB (lk 0 rfl rfl)) rfl (flL_c (show flen _ = 1 from rfl) (flL_c (show flen _ = 1 from rfl) (flL_c (show flen _ = 1 from rfl) flL_nil)))) ?_
  refine S.gsil 50 23 46 true rfl rfl rfl (lk 3 rfl rfl) (fun hB _ hF => .fieldAddrC lay37 rfl rfl (ifT hB (lk 0 rfl rfl)) rfl (flL_c (show flen _ = 1 from rfl) (flL_c (show flen _ = 1 from rfl) flL_nil))) ?_
  refine S.gsil 51 23 46 true rfl rfl rfl (lk 4 rfl rfl) (fun hB _ hF => .loadC sz3 ag3 (ifT hB (lk 0 rfl rfl)) rfl rfl) ?_
  refine S.gsil 52 23 46 true rfl rfl rfl (lk 5 rfl rfl) (fun hB _ hF => .eql (ifT hB (lk 0 rfl rfl)) cI) ?_
  obtain ⟨v9, ev9, h⟩ := h.nam
  refine S.sil 53 rfl rfl (fun _ hF => .nv (.pickAnd (lk 6 rfl rfl) (fun h => ifT h (lk 0 rfl rfl)) cB) (congrArg V.bool ev9.symm)) ?_
  refine S.sil 54 rfl rfl (fun _ hF => .move (lk 0 rfl rfl)) ?_
  refine S.gsil 55 31 54 true rfl rfl rfl (lk 0 rfl rfl) (fun hB _ hF => .move (lk 33 rfl rfl)) ?_
  refine S.gsil 56 31 54 true rfl rfl rfl (lk 1 rfl rfl) (fun hB _ hF => .eql (ifT hB (lk 0 rfl rfl)) cI) ?_
  refine S.sil 57 rfl rfl (fun _ hF => .pickAnd (lk 2 rfl rfl) (fun h => ifT h (lk 0 rfl rfl)) cB) ?_
  refine S.sil 58 rfl rfl (fun _ hF => .move (lk 0 rfl rfl)) ?_
  refine S.gsil 59 35 58 true rfl rfl rfl (lk 0 rfl rfl) (fun hB _ hF => .move (lk 36 rfl rfl)) ?_
  refine S.gsil 60 35 58 true rfl rfl rfl (lk 1 rfl rfl) (fun hB _ hF => .eql (ifT hB (lk 0 rfl rfl)) cI) ?_
  refine S.sil 61 rfl rfl (fun _ hF => .pickAnd (lk 2 rfl rfl) (fun h => ifT h (lk 0 rfl rfl)) cB) ?_
  obtain ⟨v10, ev10, h⟩ := h.nam
  refine S.sil 0 rfl rfl (fun _ hF => .nv (.assign (lk 0 rfl rfl)) (congrArg V.bool ev10.symm)) ?_
  refine S.nil ?_
  refine thenQ_n ?_
  refine AWp.prune (.eq (lk 0 rfl rfl) rfl .nil) ?_
  refine AWp.ret ?_
  obtain rfl := h.ret
  exact endF1 rfl (Wk.selS [] .nil rfl (SelE.leaf (lk 0 rfl rfl) rfl (.refl _) (fun m => (TyOk.bool.lt _ _)) .nil) .nil) (.tmp (lk 0 rfl rfl) rfl) rfl rfl
theorem C_usufructlaw13_own {a1 : List TField} {r : (List TField)} (h : usufructlaw13_own a1 = some r) : PureC Pg 13 [.sl 587 .no (List.map E_TField a1)] (E_S_TField r) := by
  refine PureC.ofF (CallSpec.of_bodyF 23 0 fn13 rfl rfl rfl (Nat.le_of_ble_eq_true rfl) ?_) (ltL_c (lt_sl rfl (ty_TField.ltm _ _)) ltL_nil) (ty_S_TField.lt _ _)
  replace h := Ok.of h
  unfold usufructlaw13_own at h
  refine AWp.seq ?_
  refine W.reg [0] rfl ?_
  refine S.sil 2 rfl rfl (fun _ hF => .assign cNs) ?_
  refine S.nil ?_
  refine thenQ_n ?_
  refine AWp.seq ?_
  refine W.reg [0] rfl ?_
  refine S.sil 3 rfl rfl (fun _ hF => .assign cNs) ?_
  refine S.nil ?_
  refine thenQ_n ?_
  refine AWp.seq ?_
  refine AWp.seq ?_
  refine W.reg [0, 1, 2] rfl ?_
  refine S.sil 6 rfl rfl (fun _ hF => .move (lk 2 rfl rfl)) ?_
  refine S.sil 7 rfl rfl (fun _ hF => .lenT sli22 (lk 0 rfl rfl) (vsub rfl (.refl _))) ?_
  refine S.sil 8 rfl rfl (fun _ hF => .move cI) ?_
  refine S.nil ?_
  refine thenQ_n ?_
  refine AWp.cutX (fun x4 => ⟨[(3, .sl 587 (.tok 0) (List.map E_TField x4)), (2, .nils)], [.tail]⟩) nc_then h (fun q2 hq2 => ?_) (fun x4 h => ?_)
  · refine AWp.block ?_
    refine AWp.loopT (fun s3 => ⟨[(8, (V.int .i64) s3.1), (7, (V.int .i64) (a1.length : Int)), (6, .sl 587 .no (List.map E_TField a1)), (3, .sl 587 (.tok 0) (List.map E_TField s3.2)), (2, .nils)], [.tail]⟩) hq2 (Wk.vacant.trans (Wk.selS [0] (by decide) rfl (SelE.leaf (lk 0 rfl rfl) rfl (.refl _) (fun m => ((TyOk.int .i64).lt _ _)) (SelE.leaf (lk 1 rfl rfl) rfl (.refl _) (fun m => ((TyOk.int .i64).lt _ _)) (SelE.leaf (lk 2 rfl rfl) rfl (.refl _) (fun m => (lt_sl rfl (ty_TField.ltm _ _))) (SelE.spec (lk 3 rfl rfl) rfl (.nils_tok _ _) (ren_sl ty_TField _) (lt_sl rfl (ty_TField.ltm _ _)) (SelE.leaf (lk 4 rfl rfl) rfl (.refl _) (fun m => rfl) .nil))))) (.cons rfl rfl trivial .nil))) (fun _ s3 h2 => ?_)
    rw [usufructlaw13_own_L1] at h2
    refine AWp.seq ?_
    refine W.reg [0] rfl ?_
    refine S.sil 9 rfl rfl (fun _ hF => .lss (lk 0 rfl rfl) (lk 1 rfl rfl)) ?_
    refine S.nil ?_
    refine thenQ_n ?_
    refine AWp.seq ?_
    refine AWp.condM (lk 0 rfl rfl) h2 (fun c1 h2 => ?_) (fun c1 h2 => ?_)
    · skip
      refine AWp.skip ?_
      refine thenQ_n ?_
      refine AWp.seq ?_
      refine AWp.block ?_
      refine AWp.seq ?_
      refine W.reg [0, 1, 2, 3] rfl ?_
      obtain ⟨j5, m5, h2⟩ := h2.bnd
      refine S.sil 10 rfl rfl (fun _ hF => .ixS sli22 (lk 3 rfl rfl) (lk 1 rfl rfl) m5) ?_
      obtain ⟨v6, ev6, h2⟩ := h2.nam
      refine S.sil 11 rfl rfl (fun _ hF => .nv (.loadC sz42 ag42 (lk 0 rfl rfl) (ty_TField.fl (a1.getD j5 default)) rfl) (congrArg E_TField ev6.symm)) ?_
      refine S.eff 5 rfl rfl (.nf (v2 := .ptr 1 [] 0) (H2 := [.tail, .cells (.st [V.str (default : ByteArray), (V.int .i64) 0, (V.int .i64) 0, E_TCounter (default : TCounter), E_TLock (default : TLock), .nils])]) (.alloc zv42) rfl rfl) trivial ?_
      refine S.effN rfl rfl (.nf (H2 := [.tail, .cells (E_TField v6)]) (.storeP sz42 (lk 0 rfl rfl) (lk 1 rfl rfl) rfl (.refl _) rfl .nil (by first | rfl | omega) .nil (ty_TField.fl v6) (fl_st (flL_c (show flen _ = 1 from rfl) (flL_c (show flen _ = 1 from rfl) (flL_c (show flen _ = 1 from rfl) (flL_c (ty_TCounter.fl (default : TCounter)) (flL_c (ty_TLock.fl (default : TLock)) (flL_c (show flen _ = 1 from rfl) flL_nil))))))) rfl) rfl rfl) trivial ?_
      refine S.nil ?_
      refine thenQ_n ?_
      refine AWp.seq ?_
      refine W.reg [0, 1, 2, 3, 4, 5] rfl ?_
      refine S.sil 12 rfl rfl (fun _ hF => .buildSliceW sli40 zv101 rfl rfl (by decide) .nil) ?_
      refine S.sil 13 rfl rfl (fun _ hF => .fieldAddr lay42 rfl rfl (lk 1 rfl rfl)) ?_
      refine S.qui 14 rfl rfl (fun _ => .loadP sz40 ag40 (lk 0 rfl rfl) rfl (.st rfl (flL_c (show flen _ = 1 from rfl) (flL_c (show flen _ = 1 from rfl) (flL_c (show flen _ = 1 from rfl) (flL_c (ty_TCounter.fl v6.Counter) (flL_c (ty_TLock.fl v6.Lock) flL_nil))))) .nil) (by first | rfl | omega) rfl rfl) ?_
      obtain ⟨l7, m7, h2⟩ := h2.bnd
      refine S.eff 15 rfl rfl (.nf (v2 := .sl 5 (.tok 2) (List.map E_THold l7)) (H2 := [.tail, .cells (E_TField v6), .tail]) (.appX sli40 und40 zv101 rfl (by decide) (lk 2 rfl rfl) (V.sub.refl _) (lk 0 rfl rfl) Rd.sl m7 rfl) rfl rfl) trivial ?_
      refine S.sil 16 rfl rfl (fun _ hF => .fieldAddr lay42 rfl rfl (lk 4 rfl rfl)) ?_
      obtain ⟨v8, ev8, h2⟩ := h2.nam
      refine S.effN rfl rfl (.nf (H2 := [.tail, .cells (E_TField v8), .tail]) (.storeP sz40 (lk 0 rfl rfl) (lk 1 rfl rfl) rfl (.forget _ _ _) rfl (.st rfl (flL_c (show flen _ = 1 from rfl) (flL_c (show flen _ = 1 from rfl) (flL_c (show flen _ = 1 from rfl) (flL_c (ty_TCounter.fl v6.Counter) (flL_c (ty_TLock.fl v6.Lock) flL_nil))))) .nil) (by first | rfl | omega) (.st rfl .nil rfl) rfl rfl (congrArg (fun z => ([.tail, AObj.cells (E_TField z), .tail] : List AObj)) ev8.symm)) rfl rfl) trivial ?_
      refine S.nil ?_
      refine thenQ_n ?_
      refine W.reg [0, 1, 2, 3, 4] rfl ?_
      refine S.sil 17 rfl rfl (fun _ hF => .move (lk 12 rfl rfl)) ?_
      refine S.qui 18 rfl rfl (fun _ => .loadP sz42 ag42 (lk 6 rfl rfl) rfl .nil (by first | rfl | omega) (ty_TField.fl v8) rfl) ?_
      refine S.sil 19 rfl rfl (fun _ hF => .buildSliceW sli22 zv42 rfl rfl (by decide) (.cons (lk 0 rfl rfl) rfl (.refl _) (ty_TField.fl v8) .nil)) ?_
      obtain ⟨l9, m9, h2⟩ := h2.bnd
      refine S.eff 20 rfl rfl (.nf (v2 := .sl 587 (.tok 3) (List.map E_TField l9)) (H2 := [.dead, .cells (E_TField v8), .tail, .tail]) (.appT sli22 und22 zv42 rfl (by decide) (lk 2 rfl rfl) rfl (lk 0 rfl rfl) Rd.sl m9 rfl) rfl rfl) trivial ?_
      refine S.sil 3 rfl rfl (fun _ hF => .assign (lk 0 rfl rfl)) ?_
      refine S.nil ?_
      refine blockQ_n ?_
      refine thenQ_n ?_
      refine W.reg [0, 1] rfl ?_
      refine S.sil 21 rfl rfl (fun _ hF => .add (lk 14 rfl rfl) cI) ?_
      refine S.sil 8 rfl rfl (fun _ hF => .move (lk 0 rfl rfl)) ?_
      refine S.nil ?_
      refine thenQ_n ?_
      exact ⟨_, h2.ret, (Wk.selS [3] (by decide) rfl (SelE.leaf (lk 0 rfl rfl) rfl (.refl _) (fun m => ((TyOk.int .i64).lt _ _)) (SelE.leaf (lk 17 rfl rfl) rfl (.refl _) (fun m => ((TyOk.int .i64).lt _ _)) (SelE.leaf (lk 18 rfl rfl) rfl (.refl _) (fun m => (lt_sl rfl (ty_TField.ltm _ _))) (SelE.spec (lk 2 rfl rfl) rfl (.refl _) (ren_sl ty_TField _) (lt_sl rfl (ty_TField.ltm _ _)) (SelE.leaf (lk 20 rfl rfl) rfl (.refl _) (fun m => rfl) .nil))))) (.cons rfl rfl trivial .nil))⟩
    · skip
      refine AWp.exit ?_
      refine thenQ_x ?_
      refine thenQ_x ?_
      refine blockQ_x ?_
      refine thenQ_n ?_
      exact ⟨_, h2.ret, (Wk.selS [0] (by decide) rfl (SelE.spec (lk 4 rfl rfl) rfl (.refl _) (ren_sl ty_TField _) (lt_sl rfl (ty_TField.ltm _ _)) (SelE.leaf (lk 5 rfl rfl) rfl (.refl _) (fun m => rfl) .nil)) (.cons rfl rfl trivial .nil))⟩
  · skip
    refine thenQ_n ?_
    refine AWp.seq ?_
    refine W.reg [0, 1] rfl ?_
    refine S.sil 22 rfl rfl (fun _ hF => .move (lk 0 rfl rfl)) ?_
    refine S.sil 2 rfl rfl (fun _ hF => .assign (lk 0 rfl rfl)) ?_
    refine S.nil ?_
    refine thenQ_n ?_
    refine AWp.ret ?_
    obtain rfl := h.ret
    exact endF1 rfl (Wk.selS [] .nil rfl (SelE.leaf (lk 0 rfl rfl) rfl (.forget _ _ _) (fun m => (ty_S_TField.lt _ _)) .nil) .nil) (.tmp (lk 0 rfl rfl) rfl) rfl rfl
theorem C_vec_Join {a1 : Vector Int 16} {a2 : Vector Int 16} {r : (Vector Int 16)} (h : vec_Join a1 a2 = some r) : PureC Pg 190 [E_A16_i64 a1, E_A16_i64 a2] (E_A16_i64 r) := by
  refine PureC.ofF (CallSpec.of_bodyF 20 0 fn190 rfl rfl rfl (Nat.le_of_ble_eq_true rfl) ?_) (ltL_c (ty_A16_i64.lt _ _) (ltL_c (ty_A16_i64.lt _ _) ltL_nil)) (ty_A16_i64.lt _ _)
  replace h := Ok.of h
  unfold vec_Join at h
  refine AWp.seq ?_
  refine W.reg [0, 1, 2] rfl ?_
  refine S.eff 2 rfl rfl (.nf (v2 := .ptr 0 [] 0) (H2 := [.cells (E_A16_i64 a1)]) (.box (lk 0 rfl rfl) rfl) rfl rfl) trivial ?_
  refine S.eff 3 rfl rfl (.nf (v2 := .ptr 1 [] 0) (H2 := [.cells (E_A16_i64 a1), .cells (E_A16_i64 a2)]) (.box (lk 2 rfl rfl) rfl) rfl rfl) trivial ?_
  refine S.eff 4 rfl rfl (.nf (v2 := .ptr 2 [] 0) (H2 := [.cells (E_A16_i64 a1), .cells (E_A16_i64 a2), .cells (E_A16_i64 (default : Vector Int 16))]) (.alloc zv32) rfl rfl) trivial ?_
  refine S.nil ?_
  refine thenQ_n ?_
  refine AWp.wk (Wk.freeze 1 rfl rfl (.same (lk 0 rfl rfl) (.cons (lk 1 rfl rfl) rfl (.ptr .nil (by first | rfl | omega)) (.same (lk 2 rfl rfl) .nil))) (.refl _)) ?_
  refine AWp.seq ?_
  refine AWp.seq ?_
  refine W.reg [0] rfl ?_
  refine S.sil 6 rfl rfl (fun _ hF => .move cI) ?_
  refine S.nil ?_
  refine thenQ_n ?_
  refine AWp.cutX (fun x5 => ⟨[(4, .ptr 0 [] 0), (2, .ptr 1 [] 0)], [.cells (E_A16_i64 (default : Vector Int 16)), .cells (E_A16_i64 x5)]⟩) nc_then h (fun q3 hq3 => ?_) (fun x5 h => ?_)
  · refine AWp.block ?_
    refine AWp.loopT (fun s4 => ⟨[(6, (V.int .i64) s4.1), (4, .ptr 0 [] 0), (3, .cptr (E_A16_i64 a2)), (2, .ptr 1 [] 0)], [.cells (E_A16_i64 (default : Vector Int 16)), .cells (E_A16_i64 s4.2)]⟩) hq3 (Wk.selS [2, 0] (by decide) rfl (SelE.leaf (lk 0 rfl rfl) rfl (.refl _) (fun m => ((TyOk.int .i64).lt _ _)) (SelE.spec (lk 1 rfl rfl) rfl (.refl _) rfl rfl (SelE.leaf (lk 2 rfl rfl) rfl (.refl _) (fun m => (lt_cptr (ty_A16_i64.lt _ _))) (SelE.spec (lk 3 rfl rfl) rfl (.refl _) rfl rfl .nil)))) (.cons (lt_cells (ty_A16_i64.lt (default : Vector Int 16) _)) rfl (RSub.trans (.refl _) (.eq (ty_A16_i64.cl _ _).symm)) (.cons (lt_cells (ty_A16_i64.lt _ _)) rfl (RSub.trans (.refl _) (.eq (ty_A16_i64.cl _ _).symm)) .nil))) (fun _ s4 h3 => ?_)
    rw [vec_Join_L1] at h3
    refine AWp.seq ?_
    refine W.reg [0] rfl ?_
    refine S.sil 7 rfl rfl (fun _ hF => .lss (lk 0 rfl rfl) cI) ?_
    refine S.nil ?_
    refine thenQ_n ?_
    refine AWp.seq ?_
    refine AWp.condM (lk 0 rfl rfl) h3 (fun c1 h3 => ?_) (fun c1 h3 => ?_)
    · skip
      refine AWp.skip ?_
      refine thenQ_n ?_
      refine AWp.seq ?_
      refine AWp.block ?_
      refine AWp.seq ?_
      refine W.reg [0, 1] rfl ?_
      refine S.sil 8 rfl rfl (fun _ hF => .move (lk 1 rfl rfl)) ?_
      refine S.sil 5 rfl rfl (fun _ hF => .assign (lk 0 rfl rfl)) ?_
      refine S.nil ?_
      refine thenQ_n ?_
      refine W.regD [0, 1, 2, 3, 4, 5, 6, 7, 8, 9] mixed ?_
      refine S.sil 9 rfl rfl (fun _ hF => .move (lk 0 rfl rfl)) ?_
      refine S.sil 10 rfl rfl (fun _ hF => .move (lk 1 rfl rfl)) ?_
      obtain ⟨k6, m6, h3⟩ := h3.bnd
      refine S.sil 11 rfl rfl (fun _ hF => .ixP arr32 (lk 8 rfl rfl) (lk 0 rfl rfl) m6) ?_
      refine S.qui 12 rfl rfl (fun _ => .loadP sz3 ag3 (lk 0 rfl rfl) rfl (.vc k6 .nil) (by first | rfl | omega) rfl rfl) ?_
      refine S.sil 13 rfl rfl (fun _ hF => .move (lk 4 rfl rfl)) ?_
      obtain ⟨k7, m7, h3⟩ := h3.bnd
      refine S.sil 14 rfl rfl (fun _ hF => .ixC arr32 (lk 10 rfl rfl) (lk 0 rfl rfl) m7) ?_
      refine S.sil 15 rfl rfl (fun _ hF => .loadC sz3 ag3 (lk 0 rfl rfl) rfl rfl) ?_
      refine S.sil 16 rfl rfl (fun _ hF => .bmax (lk 3 rfl rfl) (lk 0 rfl rfl)) ?_
      obtain ⟨k8, m8, h3⟩ := h3.bnd
      refine S.sil 17 rfl rfl (fun _ hF => .ixP arr32 (lk 14 rfl rfl) (lk 7 rfl rfl) m8) ?_
      obtain ⟨v9, ev9, h3⟩ := h3.nam
      refine S.effN rfl rfl (.storeP sz3 (lk 0 rfl rfl) (lk 1 rfl rfl) rfl (.refl _) rfl (.vc k8 .nil) (by first | rfl | omega) (.vc (max (s4.2.get k6) (a2.get k7)) k8 .nil) rfl rfl (congrArg (fun z => ([.cells (E_A16_i64 (default : Vector Int 16)), AObj.cells (E_A16_i64 z)] : List AObj)) ev9.symm)) trivial ?_
      refine S.nilD (by kernel_rfl) ?_
      refine blockQ_n ?_
      refine thenQ_n ?_
      refine W.reg [0, 1] rfl ?_
      refine S.sil 18 rfl rfl (fun _ hF => .add (lk 12 rfl rfl) cI) ?_
      refine S.sil 6 rfl rfl (fun _ hF => .move (lk 0 rfl rfl)) ?_
      refine S.nil ?_
      refine thenQ_n ?_
      exact ⟨_, h3.ret, (Wk.selS [0, 1] (by decide) rfl (SelE.leaf (lk 0 rfl rfl) rfl (.refl _) (fun m => ((TyOk.int .i64).lt _ _)) (SelE.spec (lk 15 rfl rfl) rfl (.refl _) rfl rfl (SelE.leaf (lk 16 rfl rfl) rfl (.refl _) (fun m => (lt_cptr (ty_A16_i64.lt _ _))) (SelE.spec (lk 17 rfl rfl) rfl (.refl _) rfl rfl .nil)))) (.cons (lt_cells (ty_A16_i64.lt (default : Vector Int 16) _)) rfl (RSub.trans (.refl _) (.eq (ty_A16_i64.cl _ _).symm)) (.cons (lt_cells (ty_A16_i64.lt _ _)) rfl (RSub.trans (.refl _) (.eq (ty_A16_i64.cl _ _).symm)) .nil)))⟩
    · skip
      refine AWp.exit ?_
      refine thenQ_x ?_
      refine thenQ_x ?_
      refine blockQ_x ?_
      refine thenQ_n ?_
      exact ⟨_, h3.ret, (Wk.selS [0, 1] (by decide) rfl (SelE.spec (lk 2 rfl rfl) rfl (.refl _) rfl rfl (SelE.spec (lk 4 rfl rfl) rfl (.refl _) rfl rfl .nil)) (.cons (lt_cells (ty_A16_i64.lt (default : Vector Int 16) _)) rfl (RSub.trans (.refl _) (.eq (ty_A16_i64.cl _ _).symm)) (.cons (lt_cells (ty_A16_i64.lt _ _)) rfl (RSub.trans (.refl _) (.eq (ty_A16_i64.cl _ _).symm)) .nil)))⟩
  · skip
    refine thenQ_n ?_
    refine AWp.seq ?_
    refine W.reg [0, 1] rfl ?_
    refine S.qui 19 rfl rfl (fun _ => .loadP sz32 ag32 (lk 1 rfl rfl) rfl .nil (by first | rfl | omega) (ty_A16_i64.fl x5) rfl) ?_
    refine S.effN rfl rfl (.nf (H2 := [.cells (E_A16_i64 x5), .cells (E_A16_i64 x5)]) (.storeP sz32 (lk 1 rfl rfl) (lk 0 rfl rfl) rfl (.refl _) rfl .nil (by first | rfl | omega) .nil (ty_A16_i64.fl x5) (ty_A16_i64.fl (default : Vector Int 16)) rfl) rfl rfl) trivial ?_
    refine S.nil ?_
    refine thenQ_n ?_
    refine AWp.ret ?_
    refine endF_wk (Wk.freeze 0 rfl rfl (.cons (lk 1 rfl rfl) rfl (.ptr .nil (by first | rfl | omega)) .nil) (.refl _)) ?_
    obtain rfl := h.ret
    exact endF1 rfl (Wk.selS [] .nil rfl (SelE.leaf (lk 0 rfl rfl) rfl (.refl _) (fun m => (lt_cptr (ty_A16_i64.lt _ _))) .nil) .nil) (.cellC sz32 ag32 (lk 0 rfl rfl) (ty_A16_i64.fl _) rfl) rfl rfl
theorem C_rights_Join_1 {a1 : Vector Int 16} {b2 : TRights} {r : TRights} (h : rights_Join_1 a1 b2 = some r) : CallSpec Pg 189 [.ptr 0 [0] 0, E_A16_i64 a1] [.cells (E_TRights b2)] fun o H' => o = .ret (.tup []) ∧ H' = [.cells (E_TRights r)] := by
  refine CallSpec.of_bodyF 11 1 fn189 rfl rfl rfl (Nat.le_of_ble_eq_true rfl) ?_
  replace h := Ok.of h
  unfold rights_Join_1 at h
  refine AWp.seq ?_
  refine W.reg [0] rfl ?_
  refine S.eff 3 rfl rfl (.nf (v2 := .ptr 1 [] 0) (H2 := [.cells (E_TRights b2), .cells (E_A16_i64 a1)]) (.box (lk 1 rfl rfl) rfl) rfl rfl) trivial ?_
  refine S.nil ?_
  refine thenQ_n ?_
  refine AWp.wk (Wk.freeze 1 rfl rfl (.cons (lk 0 rfl rfl) rfl (.ptr .nil (by first | rfl | omega)) (.same (lk 1 rfl rfl) .nil)) (.refl _)) ?_
  refine W.regD [0, 1, 2, 3, 4, 5, 6, 7] mixed ?_
  refine S.sil 4 rfl rfl (fun _ hF => .move (lk 1 rfl rfl)) ?_
  refine S.sil 5 rfl rfl (fun _ hF => .move (lk 2 rfl rfl)) ?_
  refine S.sil 6 rfl rfl (fun _ hF => .nilCheck (lk 0 rfl rfl) rfl) ?_
  refine S.qui 7 rfl rfl (fun _ => .loadP sz32 ag32 (lk 0 rfl rfl) rfl (.st rfl flL_nil .nil) (by first | rfl | omega) (ty_A16_i64.fl b2.Given) rfl) ?_
  refine S.sil 8 rfl rfl (fun _ hF => .loadC sz32 ag32 (lk 4 rfl rfl) (ty_A16_i64.fl a1) rfl) ?_
  obtain ⟨r3, m3, h⟩ := h.bnd
  refine S.sil 9 rfl rfl (fun _ hF => .callQ ent190 cF (.c (lk 1 rfl rfl) (V.sub.refl _) (.c (lk 0 rfl rfl) (V.sub.refl _) .nil)) (C_vec_Join m3)) ?_
  refine S.sil 10 rfl rfl (fun _ hF => .nilCheck (lk 5 rfl rfl) rfl) ?_
  obtain ⟨v4, ev4, h⟩ := h.nam
  refine S.effN rfl rfl (.storeP sz32 (lk 0 rfl rfl) (lk 1 rfl rfl) rfl (.refl _) rfl (.st rfl flL_nil .nil) (by first | rfl | omega) (.st rfl .nil rfl) (ty_A16_i64.fl r3) (ty_A16_i64.fl b2.Given) (congrArg (fun z => ([AObj.cells (E_TRights z), .dead] : List AObj)) ev4.symm)) trivial ?_
  refine S.nilD (by kernel_rfl) ?_
  refine endF_n ?_
  obtain rfl := h.ret
  exact endFN rfl (Wk.selS [0] (by decide) rfl .nil (.cons (lt_cells (ty_TRights.lt _ _)) rfl (RSub.trans (.refl _) (.eq (ty_TRights.cl _ _).symm)) .nil)) .nil rfl rfl rfl
theorem C_rights_Join_1_2 {a1 : Vector Int 16} {b2 : TRights} {r : TRights} (h : rights_Join_1_2 a1 b2 = some r) : CallSpec Pg 189 [.ptr 0 [1] 16, E_A16_i64 a1] [.cells (E_TRights b2)] fun o H' => o = .ret (.tup []) ∧ H' = [.cells (E_TRights r)] := by
  refine CallSpec.of_bodyF 11 1 fn189 rfl rfl rfl (Nat.le_of_ble_eq_true rfl) ?_
  replace h := Ok.of h
  unfold rights_Join_1_2 at h
  refine AWp.seq ?_
  refine W.reg [0] rfl ?_
  refine S.eff 3 rfl rfl (.nf (v2 := .ptr 1 [] 0) (H2 := [.cells (E_TRights b2), .cells (E_A16_i64 a1)]) (.box (lk 1 rfl rfl) rfl) rfl rfl) trivial ?_
  refine S.nil ?_
  refine thenQ_n ?_
  refine AWp.wk (Wk.freeze 1 rfl rfl (.cons (lk 0 rfl rfl) rfl (.ptr .nil (by first | rfl | omega)) (.same (lk 1 rfl rfl) .nil)) (.refl _)) ?_
  refine W.regD [0, 1, 2, 3, 4, 5, 6, 7] mixed ?_
  refine S.sil 4 rfl rfl (fun _ hF => .move (lk 1 rfl rfl)) ?_
  refine S.sil 5 rfl rfl (fun _ hF => .move (lk 2 rfl rfl)) ?_
  refine S.sil 6 rfl rfl (fun _ hF => .nilCheck (lk 0 rfl rfl) rfl) ?_
  refine S.qui 7 rfl rfl (fun _ => .loadP sz32 ag32 (lk 0 rfl rfl) rfl (.st rfl (flL_c (ty_A16_i64.fl b2.Given) flL_nil) .nil) (by first | rfl | omega) (ty_A16_i64.fl b2.Used) rfl) ?_
  refine S.sil 8 rfl rfl (fun _ hF => .loadC sz32 ag32 (lk 4 rfl rfl) (ty_A16_i64.fl a1) rfl) ?_
  obtain ⟨r3, m3, h⟩ := h.bnd
  refine S.sil 9 rfl rfl (fun _ hF => .callQ ent190 cF (.c (lk 1 rfl rfl) (V.sub.refl _) (.c (lk 0 rfl rfl) (V.sub.refl _) .nil)) (C_vec_Join m3)) ?_
  refine S.sil 10 rfl rfl (fun _ hF => .nilCheck (lk 5 rfl rfl) rfl) ?_
  obtain ⟨v4, ev4, h⟩ := h.nam
  refine S.effN rfl rfl (.storeP sz32 (lk 0 rfl rfl) (lk 1 rfl rfl) rfl (.refl _) rfl (.st rfl (flL_c (ty_A16_i64.fl b2.Given) flL_nil) .nil) (by first | rfl | omega) (.st rfl .nil rfl) (ty_A16_i64.fl r3) (ty_A16_i64.fl b2.Used) (congrArg (fun z => ([AObj.cells (E_TRights z), .dead] : List AObj)) ev4.symm)) trivial ?_
  refine S.nilD (by kernel_rfl) ?_
  refine endF_n ?_
  obtain rfl := h.ret
  exact endFN rfl (Wk.selS [0] (by decide) rfl .nil (.cons (lt_cells (ty_TRights.lt _ _)) rfl (RSub.trans (.refl _) (.eq (ty_TRights.cl _ _).symm)) .nil)) .nil rfl rfl rfl
theorem C_rights_Join_1_3 {k1 : Fin 16} {a2 : Vector Int 16} {b3 : TRights} {r : TRights} (h : rights_Join_1_3 k1 a2 b3 = some r) : CallSpec Pg 189 [.ptr 0 [2, k1.val] (32 + k1.val * 16), E_A16_i64 a2] [.cells (E_TRights b3)] fun o H' => o = .ret (.tup []) ∧ H' = [.cells (E_TRights r)] := by
  refine CallSpec.of_bodyF 11 1 fn189 rfl rfl rfl (Nat.le_of_ble_eq_true rfl) ?_
  replace h := Ok.of h
  unfold rights_Join_1_3 at h
  refine AWp.seq ?_
  refine W.reg [0] rfl ?_
  refine S.eff 3 rfl rfl (.nf (v2 := .ptr 1 [] 0) (H2 := [.cells (E_TRights b3), .cells (E_A16_i64 a2)]) (.box (lk 1 rfl rfl) rfl) rfl rfl) trivial ?_
  refine S.nil ?_
  refine thenQ_n ?_
  refine AWp.wk (Wk.freeze 1 rfl rfl (.cons (lk 0 rfl rfl) rfl (.ptr .nil (by first | rfl | omega)) (.same (lk 1 rfl rfl) .nil)) (.refl _)) ?_
  refine W.regD [0, 1, 2, 3, 4, 5, 6, 7] mixed ?_
  refine S.sil 4 rfl rfl (fun _ hF => .move (lk 1 rfl rfl)) ?_
  refine S.sil 5 rfl rfl (fun _ hF => .move (lk 2 rfl rfl)) ?_
  refine S.sil 6 rfl rfl (fun _ hF => .nilCheck (lk 0 rfl rfl) rfl) ?_
  obtain ⟨v4, ev4, h⟩ := h.nam
  refine S.qui 7 rfl rfl (fun _ => .nv (.loadP sz32 ag32 (lk 0 rfl rfl) rfl (.st rfl (flL_c (ty_A16_i64.fl b3.Given) (flL_c (ty_A16_i64.fl b3.Used) flL_nil)) (.vc k1 .nil)) (by first | rfl | omega) (ty_A16_i64.fl (b3.Moved.get k1)) rfl) (congrArg E_A16_i64 ev4.symm)) ?_
  refine S.sil 8 rfl rfl (fun _ hF => .loadC sz32 ag32 (lk 4 rfl rfl) (ty_A16_i64.fl a2) rfl) ?_
  obtain ⟨r5, m5, h⟩ := h.bnd
  refine S.sil 9 rfl rfl (fun _ hF => .callQ ent190 cF (.c (lk 1 rfl rfl) (V.sub.refl _) (.c (lk 0 rfl rfl) (V.sub.refl _) .nil)) (C_vec_Join m5)) ?_
  refine S.sil 10 rfl rfl (fun _ hF => .nilCheck (lk 5 rfl rfl) rfl) ?_
  obtain ⟨v6, ev6, h⟩ := h.nam
  refine S.effN rfl rfl (.storeP sz32 (lk 0 rfl rfl) (lk 1 rfl rfl) rfl (.refl _) rfl (.st rfl (flL_c (ty_A16_i64.fl b3.Given) (flL_c (ty_A16_i64.fl b3.Used) flL_nil)) (.vc k1 .nil)) (by first | rfl | omega) (.st rfl (.vc r5 k1 .nil) rfl) (ty_A16_i64.fl r5) (ty_A16_i64.fl (b3.Moved.get k1)) (congrArg (fun z => ([AObj.cells (E_TRights z), .dead] : List AObj)) ev6.symm)) trivial ?_
  refine S.nilD (by kernel_rfl) ?_
  refine endF_n ?_
  obtain rfl := h.ret
  exact endFN rfl (Wk.selS [0] (by decide) rfl .nil (.cons (lt_cells (ty_TRights.lt _ _)) rfl (RSub.trans (.refl _) (.eq (ty_TRights.cl _ _).symm)) .nil)) .nil rfl rfl rfl
theorem C_rights_Join {a1 : TRights} {a2 : TRights} {r : TRights} (h : rights_Join a1 a2 = some r) : PureC Pg 131 [E_TRights a1, E_TRights a2] (E_TRights r) := by
  refine PureC.ofF (CallSpec.of_bodyF 31 0 fn131 rfl rfl rfl (Nat.le_of_ble_eq_true rfl) ?_) (ltL_c (ty_TRights.lt _ _) (ltL_c (ty_TRights.lt _ _) ltL_nil)) (ty_TRights.lt _ _)
  replace h := Ok.of h
  unfold rights_Join at h
  refine AWp.seq ?_
  refine W.reg [0, 1, 2] rfl ?_
  refine S.eff 2 rfl rfl (.nf (v2 := .ptr 0 [] 0) (H2 := [.cells (E_TRights a1)]) (.box (lk 0 rfl rfl) rfl) rfl rfl) trivial ?_
  refine S.eff 3 rfl rfl (.nf (v2 := .ptr 1 [] 0) (H2 := [.cells (E_TRights a1), .cells (E_TRights a2)]) (.box (lk 2 rfl rfl) rfl) rfl rfl) trivial ?_
  refine S.eff 4 rfl rfl (.nf (v2 := .ptr 2 [] 0) (H2 := [.cells (E_TRights a1), .cells (E_TRights a2), .cells (E_TRights (default : TRights))]) (.alloc zv35) rfl rfl) trivial ?_
  refine S.nil ?_
  refine thenQ_n ?_
  refine AWp.wk (Wk.freeze 1 rfl rfl (.same (lk 0 rfl rfl) (.cons (lk 1 rfl rfl) rfl (.ptr .nil (by first | rfl | omega)) (.same (lk 2 rfl rfl) .nil))) (.refl _)) ?_
  refine AWp.seq ?_
  refine W.reg [0] rfl ?_
  refine S.sil 5 rfl rfl (fun _ hF => .assign cF) ?_
  refine S.nil ?_
  refine thenQ_n ?_
  refine AWp.seq ?_
  refine W.reg [0, 1, 2, 3, 4] rfl ?_
  refine S.sil 7 rfl rfl (fun _ hF => .move (lk 0 rfl rfl)) ?_
  refine S.sil 8 rfl rfl (fun _ hF => .fieldAddr lay35 rfl rfl (lk 4 rfl rfl)) ?_
  refine S.sil 9 rfl rfl (fun _ hF => .fieldAddrC lay35 rfl rfl (lk 4 rfl rfl) rfl flL_nil) ?_
  refine S.sil 10 rfl rfl (fun _ hF => .loadC sz32 ag32 (lk 0 rfl rfl) (ty_A16_i64.fl a2.Given) rfl) ?_
  obtain ⟨r3, m3, h⟩ := h.bnd
  refine S.eff 11 rfl rfl (.nf (H2 := [.cells (E_TRights r3), .dead, .cells (E_TRights (default : TRights))]) (.callH ent189 (lk 3 rfl rfl) [0] (C_rights_Join_1 m3) (by decide) (.cons (lt_cells (ty_TRights.lt _ _)) rfl (RSub.trans (.refl _) (.eq (ty_TRights.cl _ _).symm)) .nil) (ltL_c rfl (ltL_c (ty_A16_i64.lt _ _) ltL_nil)) (.c (lk 2 rfl rfl) (subren rfl) (.c (lk 0 rfl rfl) (vsubr (V.sub.refl _) (ty_A16_i64.lt _ _)) .nil)) (ren_tup rfl) (mapc (ren_cells (ty_TRights.cl _ _)) rfl) rfl) rfl rfl) trivial ?_
  refine S.nil ?_
  refine thenQ_n ?_
  refine AWp.seq ?_
  refine W.reg [0, 1, 2, 3, 4] rfl ?_
  refine S.sil 12 rfl rfl (fun _ hF => .move (lk 5 rfl rfl)) ?_
  refine S.sil 13 rfl rfl (fun _ hF => .fieldAddr lay35 rfl rfl (lk 9 rfl rfl)) ?_
  refine S.sil 14 rfl rfl (fun _ hF => .fieldAddrC lay35 rfl rfl (lk 9 rfl rfl) rfl (flL_c (ty_A16_i64.fl a2.Given) flL_nil)) ?_
  refine S.sil 15 rfl rfl (fun _ hF => .loadC sz32 ag32 (lk 0 rfl rfl) (ty_A16_i64.fl a2.Used) rfl) ?_
  obtain ⟨r4, m4, h⟩ := h.bnd
  refine S.eff 16 rfl rfl (.nf (H2 := [.cells (E_TRights r4), .dead, .cells (E_TRights (default : TRights))]) (.callH ent189 (lk 3 rfl rfl) [0] (C_rights_Join_1_2 m4) (by decide) (.cons (lt_cells (ty_TRights.lt _ _)) rfl (RSub.trans (.refl _) (.eq (ty_TRights.cl _ _).symm)) .nil) (ltL_c rfl (ltL_c (ty_A16_i64.lt _ _) ltL_nil)) (.c (lk 2 rfl rfl) (subren rfl) (.c (lk 0 rfl rfl) (vsubr (V.sub.refl _) (ty_A16_i64.lt _ _)) .nil)) (ren_tup rfl) (mapc (ren_cells (ty_TRights.cl _ _)) rfl) rfl) rfl rfl) trivial ?_
  refine S.nil ?_
  refine thenQ_n ?_
  refine AWp.prune (.eq (lk 10 rfl rfl) rfl (.eq (lk 11 rfl rfl) rfl (.eq (lk 12 rfl rfl) rfl (.eq (lk 13 rfl rfl) rfl .nil)))) ?_
  refine AWp.seq ?_
  refine AWp.seq ?_
  refine W.reg [0] rfl ?_
  refine S.sil 17 rfl rfl (fun _ hF => .move cI) ?_
  refine S.nil ?_
  refine thenQ_n ?_
  refine AWp.cutX (fun x7 => ⟨[(4, .ptr 0 [] 0), (2, .ptr 1 [] 0)], [.cells (E_TRights (default : TRights)), .cells (E_TRights x7)]⟩) nc_then h (fun q5 hq5 => ?_) (fun x7 h => ?_)
  · refine AWp.block ?_
    refine AWp.loopT (fun s6 => ⟨[(17, (V.int .i64) s6.1), (5, .fn 189 [] []), (4, .ptr 0 [] 0), (3, .cptr (E_TRights a2)), (2, .ptr 1 [] 0)], [.cells (E_TRights (default : TRights)), .cells (E_TRights s6.2)]⟩) hq5 (Wk.selS [2, 0] (by decide) rfl (SelE.leaf (lk 0 rfl rfl) rfl (.refl _) (fun m => ((TyOk.int .i64).lt _ _)) (SelE.leaf (lk 1 rfl rfl) rfl (.refl _) (fun m => (lt_fn ltL_nil ltL_nil)) (SelE.spec (lk 2 rfl rfl) rfl (.refl _) rfl rfl (SelE.leaf (lk 3 rfl rfl) rfl (.refl _) (fun m => (lt_cptr (ty_TRights.lt _ _))) (SelE.spec (lk 4 rfl rfl) rfl (.refl _) rfl rfl .nil))))) (.cons (lt_cells (ty_TRights.lt (default : TRights) _)) rfl (RSub.trans (.refl _) (.eq (ty_TRights.cl _ _).symm)) (.cons (lt_cells (ty_TRights.lt _ _)) rfl (RSub.trans (.refl _) (.eq (ty_TRights.cl _ _).symm)) .nil))) (fun _ s6 h5 => ?_)
    rw [rights_Join_L1] at h5
    refine AWp.seq ?_
    refine W.reg [0] rfl ?_
    refine S.sil 18 rfl rfl (fun _ hF => .lss (lk 0 rfl rfl) cI) ?_
    refine S.nil ?_
    refine thenQ_n ?_
    refine AWp.seq ?_
    refine AWp.condM (lk 0 rfl rfl) h5 (fun c1 h5 => ?_) (fun c1 h5 => ?_)
    · skip
      refine AWp.skip ?_
      refine thenQ_n ?_
      refine AWp.seq ?_
      refine AWp.block ?_
      refine AWp.seq ?_
      refine W.reg [0, 1] rfl ?_
      refine S.sil 19 rfl rfl (fun _ hF => .move (lk 1 rfl rfl)) ?_
      refine S.sil 6 rfl rfl (fun _ hF => .assign (lk 0 rfl rfl)) ?_
      refine S.nil ?_
      refine thenQ_n ?_
      refine W.regD [0, 1, 2, 3, 4, 5, 6, 7, 8] mixed ?_
      refine S.sil 20 rfl rfl (fun _ hF => .move (lk 4 rfl rfl)) ?_
      refine S.sil 21 rfl rfl (fun _ hF => .move (lk 1 rfl rfl)) ?_
      refine S.sil 22 rfl rfl (fun _ hF => .fieldAddr lay35 rfl rfl (lk 9 rfl rfl)) ?_
      obtain ⟨k8, m8, h5⟩ := h5.bnd
      refine S.sil 23 rfl rfl (fun _ hF => .ixP arr33 (lk 0 rfl rfl) (lk 1 rfl rfl) m8) ?_
      refine S.sil 24 rfl rfl (fun _ hF => .move (lk 4 rfl rfl)) ?_
      refine S.sil 25 rfl rfl (fun _ hF => .fieldAddrC lay35 rfl rfl (lk 11 rfl rfl) rfl (flL_c (ty_A16_i64.fl a2.Given) (flL_c (ty_A16_i64.fl a2.Used) flL_nil))) ?_
      obtain ⟨k9, m9, h5⟩ := h5.bnd
      refine S.sil 26 rfl rfl (fun _ hF => .ixC arr33 (lk 0 rfl rfl) (lk 1 rfl rfl) m9) ?_
      obtain ⟨v10, ev10, h5⟩ := h5.nam
      refine S.sil 27 rfl rfl (fun _ hF => .nv (.loadC sz32 ag32 (lk 0 rfl rfl) (ty_A16_i64.fl (a2.Moved.get k9)) rfl) (congrArg E_A16_i64 ev10.symm)) ?_
      obtain ⟨r11, m11, h5⟩ := h5.bnd
      refine S.eff 28 rfl rfl (.callH ent189 (lk 7 rfl rfl) [1] (C_rights_Join_1_3 m11) (by decide) (.cons (lt_cells (ty_TRights.lt _ _)) rfl (RSub.trans (.refl _) (.eq (ty_TRights.cl _ _).symm)) .nil) (ltL_c rfl (ltL_c (ty_A16_i64.lt _ _) ltL_nil)) (.c (lk 4 rfl rfl) (subren rfl) (.c (lk 0 rfl rfl) (vsubr (V.sub.refl _) (ty_A16_i64.lt _ _)) .nil)) (ren_tup rfl) (mapc (ren_cells (ty_TRights.cl _ _)) rfl) rfl) trivial ?_
      refine S.nilD (by kernel_rfl) ?_
      refine blockQ_n ?_
      refine thenQ_n ?_
      refine W.reg [0, 1] rfl ?_
      refine S.sil 29 rfl rfl (fun _ hF => .add (lk 12 rfl rfl) cI) ?_
      refine S.sil 17 rfl rfl (fun _ hF => .move (lk 0 rfl rfl)) ?_
      refine S.nil ?_
      refine thenQ_n ?_
      exact ⟨_, h5.ret, (Wk.selS [0, 1] (by decide) rfl (SelE.leaf (lk 0 rfl rfl) rfl (.refl _) (fun m => ((TyOk.int .i64).lt _ _)) (SelE.leaf (lk 15 rfl rfl) rfl (.refl _) (fun m => (lt_fn ltL_nil ltL_nil)) (SelE.spec (lk 16 rfl rfl) rfl (.refl _) rfl rfl (SelE.leaf (lk 17 rfl rfl) rfl (.refl _) (fun m => (lt_cptr (ty_TRights.lt _ _))) (SelE.spec (lk 18 rfl rfl) rfl (.refl _) rfl rfl .nil))))) (.cons (lt_cells (ty_TRights.lt (default : TRights) _)) rfl (RSub.trans (.refl _) (.eq (ty_TRights.cl _ _).symm)) (.cons (lt_cells (ty_TRights.lt _ _)) rfl (RSub.trans (.refl _) (.eq (ty_TRights.cl _ _).symm)) .nil)))⟩
    · skip
      refine AWp.exit ?_
      refine thenQ_x ?_
      refine thenQ_x ?_
      refine blockQ_x ?_
      refine thenQ_n ?_
      exact ⟨_, h5.ret, (Wk.selS [0, 1] (by decide) rfl (SelE.spec (lk 3 rfl rfl) rfl (.refl _) rfl rfl (SelE.spec (lk 5 rfl rfl) rfl (.refl _) rfl rfl .nil)) (.cons (lt_cells (ty_TRights.lt (default : TRights) _)) rfl (RSub.trans (.refl _) (.eq (ty_TRights.cl _ _).symm)) (.cons (lt_cells (ty_TRights.lt _ _)) rfl (RSub.trans (.refl _) (.eq (ty_TRights.cl _ _).symm)) .nil)))⟩
  · skip
    refine thenQ_n ?_
    refine AWp.seq ?_
    refine W.reg [0, 1] rfl ?_
    refine S.qui 30 rfl rfl (fun _ => .loadP sz35 ag35 (lk 1 rfl rfl) rfl .nil (by first | rfl | omega) (ty_TRights.fl x7) rfl) ?_
    refine S.effN rfl rfl (.nf (H2 := [.cells (E_TRights x7), .cells (E_TRights x7)]) (.storeP sz35 (lk 1 rfl rfl) (lk 0 rfl rfl) rfl (.refl _) rfl .nil (by first | rfl | omega) .nil (ty_TRights.fl x7) (ty_TRights.fl (default : TRights)) rfl) rfl rfl) trivial ?_
    refine S.nil ?_
    refine thenQ_n ?_
    refine AWp.ret ?_
    refine endF_wk (Wk.freeze 0 rfl rfl (.cons (lk 1 rfl rfl) rfl (.ptr .nil (by first | rfl | omega)) .nil) (.refl _)) ?_
    obtain rfl := h.ret
    exact endF1 rfl (Wk.selS [] .nil rfl (SelE.leaf (lk 0 rfl rfl) rfl (.refl _) (fun m => (lt_cptr (ty_TRights.lt _ _))) .nil) .nil) (.cellC sz35 ag35 (lk 0 rfl rfl) (ty_TRights.fl _) rfl) rfl rfl
theorem C_counter_Join {a1 : TCounter} {a2 : TCounter} {r : TCounter × Int} (h : counter_Join a1 a2 = some r) : PureC Pg 57 [E_TCounter a1, E_TCounter a2] (.tup [E_TCounter r.1, (V.int .i64) r.2]) := by
  refine PureC.ofF (CallSpec.of_bodyF 39 0 fn57 rfl rfl rfl (Nat.le_of_ble_eq_true rfl) ?_) (ltL_c (ty_TCounter.lt _ _) (ltL_c (ty_TCounter.lt _ _) ltL_nil)) (lt_tup (ltL_c (ty_TCounter.lt _ _) (ltL_c ((TyOk.int .i64).lt _ _) ltL_nil)))
  replace h := Ok.of h
  unfold counter_Join at h
  refine AWp.seq ?_
  refine W.reg [0, 1, 2, 3] rfl ?_
  refine S.eff 2 rfl rfl (.nf (v2 := .ptr 0 [] 0) (H2 := [.cells (E_TCounter a1)]) (.box (lk 0 rfl rfl) rfl) rfl rfl) trivial ?_
  refine S.eff 3 rfl rfl (.nf (v2 := .ptr 1 [] 0) (H2 := [.cells (E_TCounter a1), .cells (E_TCounter a2)]) (.box (lk 2 rfl rfl) rfl) rfl rfl) trivial ?_
  refine S.eff 4 rfl rfl (.nf (v2 := .ptr 2 [] 0) (H2 := [.cells (E_TCounter a1), .cells (E_TCounter a2), .cells (E_TCounter (default : TCounter))]) (.alloc zv37) rfl rfl) trivial ?_
  refine S.sil 5 rfl rfl (fun _ hF => .assign cI) ?_
  refine S.nil ?_
  refine thenQ_n ?_
  refine AWp.wk (Wk.freeze 1 rfl rfl (.same (lk 0 rfl rfl) (.same (lk 1 rfl rfl) (.cons (lk 2 rfl rfl) rfl (.ptr .nil (by first | rfl | omega)) (.same (lk 3 rfl rfl) .nil)))) (.refl _)) ?_
  refine AWp.seq ?_
  refine AWp.seq ?_
  refine W.reg [0, 1, 2, 3, 4, 5, 6, 7, 8, 9, 10, 11, 12, 13, 14, 15, 16, 17, 18] rfl ?_
  refine S.sil 6 rfl rfl (fun _ hF => .fieldAddr lay37 rfl rfl (lk 3 rfl rfl)) ?_
  refine S.qui 7 rfl rfl (fun _ => .loadP sz3 ag3 (lk 0 rfl rfl) rfl (.st rfl flL_nil .nil) (by first | rfl | omega) rfl rfl) ?_
  refine S.sil 8 rfl rfl (fun _ hF => .fieldAddrC lay37 rfl rfl (lk 4 rfl rfl) rfl flL_nil) ?_
  refine S.sil 9 rfl rfl (fun _ hF => .loadC sz3 ag3 (lk 0 rfl rfl) rfl rfl) ?_
  refine S.sil 10 rfl rfl (fun _ hF => .neq (lk 2 rfl rfl) (lk 0 rfl rfl)) ?_
  refine S.sil 11 rfl rfl (fun _ hF => .move (lk 0 rfl rfl)) ?_
  refine S.gsil 12 5 11 false rfl rfl rfl (lk 0 rfl rfl) (fun hB _ hF => .fieldAddr lay37 rfl rfl (lk 9 rfl rfl)) ?_
  refine S.gqui 13 5 11 false rfl rfl rfl (lk 1 rfl rfl) (fun hB _ => .loadP sz3 ag3 (ifT hB (lk 0 rfl rfl)) rfl (.st rfl (flL_c (show flen _ = 1 from rfl) flL_nil) .nil) (by first | rfl | omega) rfl rfl) ?_
  refine S.gsil 14 5 11 false rfl rfl rfl (lk 2 rfl rfl) (fun hB _ hF => .fieldAddrC lay37 rfl rfl (lk 10 rfl rfl) rfl (flL_c (show flen _ = 1 from rfl) flL_nil)) ?_
  refine S.gsil 15 5 11 false rfl rfl rfl (lk 3 rfl rfl) (fun hB _ hF => .loadC sz3 ag3 (ifT hB (lk 0 rfl rfl)) rfl rfl) ?_
  refine S.gsil 16 5 11 false rfl rfl rfl (lk 4 rfl rfl) (fun hB _ hF => .neq (ifT hB (lk 2 rfl rfl)) (ifT hB (lk 0 rfl rfl))) ?_
  refine S.sil 17 rfl rfl (fun _ hF => .pickOr (lk 5 rfl rfl) cB (fun h => ifT h (lk 0 rfl rfl))) ?_
  refine S.sil 18 rfl rfl (fun _ hF => .move (lk 0 rfl rfl)) ?_
  refine S.gsil 19 12 18 false rfl rfl rfl (lk 0 rfl rfl) (fun hB _ hF => .fieldAddr lay37 rfl rfl (lk 16 rfl rfl)) ?_
  refine S.gqui 20 12 18 false rfl rfl rfl (lk 1 rfl rfl) (fun hB _ => .loadP sz3 ag3 (ifT hB (lk 0 rfl rfl)) rfl (.st rfl (flL_c (show flen _ = 1 from rfl) (flL_c (show flen _ = 1 from rfl) flL_nil)) .nil) (by first | rfl | omega) rfl rfl) ?_
  refine S.gsil 21 12 18 false rfl rfl rfl (lk 2 rfl rfl) (fun hB _ hF => .fieldAddrC lay37 rfl rfl (lk 17 rfl rfl) rfl (flL_c (show flen _ = 1 from rfl) (flL_c (show flen _ = 1 from rfl) flL_nil))) ?_
  refine S.gsil 22 12 18 false rfl rfl rfl (lk 3 rfl rfl) (fun hB _ hF => .loadC sz3 ag3 (ifT hB (lk 0 rfl rfl)) rfl rfl) ?_
  refine S.gsil 23 12 18 false rfl rfl rfl (lk 4 rfl rfl) (fun hB _ hF => .neq (ifT hB (lk 2 rfl rfl)) (ifT hB (lk 0 rfl rfl))) ?_
  obtain ⟨v3, ev3, h⟩ := h.nam
  refine S.sil 24 rfl rfl (fun _ hF => .nv (.pickOr (lk 5 rfl rfl) cB (fun h => ifT h (lk 0 rfl rfl))) (congrArg V.bool ev3.symm)) ?_
  refine S.nil ?_
  refine thenQ_n ?_
  refine AWp.prune (.eq (lk 0 rfl rfl) rfl (.eq (lk 19 rfl rfl) rfl (.eq (lk 20 rfl rfl) rfl (.eq (lk 21 rfl rfl) rfl (.eq (lk 22 rfl rfl) rfl .nil))))) ?_
  refine AWp.condM (lk 0 rfl rfl) h (fun c1 h => ?_) (fun c1 h => ?_)
  · skip
    refine AWp.seq ?_
    refine W.reg [0, 1, 2] rfl ?_
    obtain ⟨v4, ev4, h⟩ := h.nam
    refine S.sil 25 rfl rfl (fun _ hF => .nv (.nv (v2 := E_TCounter (⟨0, 0, 0, (default : TRights), (default : TRights)⟩ : TCounter)) (.buildStW lay37 zv37 rfl .nil) rfl) (congrArg E_TCounter ev4.symm)) ?_
    refine S.effN rfl rfl (.nf (H2 := [.cells (E_TCounter a1), .dead, .cells (E_TCounter v4)]) (.storeP sz37 (lk 3 rfl rfl) (lk 0 rfl rfl) rfl (.refl _) rfl .nil (by first | rfl | omega) .nil (ty_TCounter.fl v4) (ty_TCounter.fl (default : TCounter)) rfl) rfl rfl) trivial ?_
    refine S.sil 5 rfl rfl (fun _ hF => .assign cI) ?_
    refine S.nil ?_
    refine thenQ_n ?_
    refine AWp.ret ?_
    refine thenQ_r ?_
    refine endF_wk (Wk.freeze 2 rfl rfl (.same (lk 0 rfl rfl) (.same (lk 0 rfl rfl) (.cons (lk 4 rfl rfl) rfl (.ptr .nil (by first | rfl | omega)) .nil))) (.refl _)) ?_
    obtain rfl := h.ret
    exact endFN rfl (Wk.selS [] .nil rfl (SelE.leaf (lk 2 rfl rfl) rfl (.refl _) (fun m => (lt_cptr (ty_TCounter.lt _ _))) (SelE.leaf (lk 0 rfl rfl) rfl (.refl _) (fun m => ((TyOk.int .i64).lt _ _)) .nil)) .nil) (.cons (.cellC sz37 ag37 (lk 0 rfl rfl) (ty_TCounter.fl _) rfl) (.cons (.tmp (lk 1 rfl rfl) rfl) .nil)) rfl rfl rfl
  · skip
    refine AWp.skip ?_
    refine thenQ_n ?_
    refine AWp.seq ?_
    refine W.regD [0, 1, 2, 3, 4, 5, 6, 7, 8, 9, 10, 11, 12, 13] mixed ?_
    refine S.sil 26 rfl rfl (fun _ hF => .fieldAddr lay37 rfl rfl (lk 4 rfl rfl)) ?_
    refine S.qui 27 rfl rfl (fun _ => .loadP sz35 ag35 (lk 0 rfl rfl) rfl (.st rfl (flL_c (show flen _ = 1 from rfl) (flL_c (show flen _ = 1 from rfl) (flL_c (show flen _ = 1 from rfl) flL_nil))) .nil) (by first | rfl | omega) (ty_TRights.fl a1.Down) rfl) ?_
    refine S.sil 28 rfl rfl (fun _ hF => .fieldAddrC lay37 rfl rfl (lk 5 rfl rfl) rfl (flL_c (show flen _ = 1 from rfl) (flL_c (show flen _ = 1 from rfl) (flL_c (show flen _ = 1 from rfl) flL_nil)))) ?_
    refine S.sil 29 rfl rfl (fun _ hF => .loadC sz35 ag35 (lk 0 rfl rfl) (ty_TRights.fl a2.Down) rfl) ?_
    obtain ⟨r5, m5, h⟩ := h.bnd
    refine S.sil 30 rfl rfl (fun _ hF => .callQ ent131 cF (.c (lk 2 rfl rfl) (V.sub.refl _) (.c (lk 0 rfl rfl) (V.sub.refl _) .nil)) (C_rights_Join m5)) ?_
    refine S.sil 31 rfl rfl (fun _ hF => .fieldAddr lay37 rfl rfl (lk 9 rfl rfl)) ?_
    refine S.qui 32 rfl rfl (fun _ => .loadP sz35 ag35 (lk 0 rfl rfl) rfl (.st rfl (flL_c (show flen _ = 1 from rfl) (flL_c (show flen _ = 1 from rfl) (flL_c (show flen _ = 1 from rfl) (flL_c (ty_TRights.fl a1.Down) flL_nil)))) .nil) (by first | rfl | omega) (ty_TRights.fl a1.Up) rfl) ?_
    refine S.sil 33 rfl rfl (fun _ hF => .fieldAddrC lay37 rfl rfl (lk 10 rfl rfl) rfl (flL_c (show flen _ = 1 from rfl) (flL_c (show flen _ = 1 from rfl) (flL_c (show flen _ = 1 from rfl) (flL_c (ty_TRights.fl a2.Down) flL_nil))))) ?_
    refine S.sil 34 rfl rfl (fun _ hF => .loadC sz35 ag35 (lk 0 rfl rfl) (ty_TRights.fl a2.Up) rfl) ?_
    obtain ⟨r6, m6, h⟩ := h.bnd
    refine S.sil 35 rfl rfl (fun _ hF => .callQ ent131 cF (.c (lk 2 rfl rfl) (V.sub.refl _) (.c (lk 0 rfl rfl) (V.sub.refl _) .nil)) (C_rights_Join m6)) ?_
    refine S.sil 36 rfl rfl (fun _ hF => .fieldAddr lay37 rfl rfl (lk 14 rfl rfl)) ?_
    obtain ⟨v7, ev7, h⟩ := h.nam
    refine S.effN rfl rfl (.storeP sz35 (lk 0 rfl rfl) (lk 6 rfl rfl) rfl (.refl _) rfl (.st rfl (flL_c (show flen _ = 1 from rfl) (flL_c (show flen _ = 1 from rfl) (flL_c (show flen _ = 1 from rfl) flL_nil))) .nil) (by first | rfl | omega) (.st rfl .nil rfl) (ty_TRights.fl r5) (ty_TRights.fl a1.Down) (congrArg (fun z => ([AObj.cells (E_TCounter z), .dead, .cells (E_TCounter (default : TCounter))] : List AObj)) ev7.symm)) trivial ?_
    refine S.sil 37 rfl rfl (fun _ hF => .fieldAddr lay37 rfl rfl (lk 15 rfl rfl)) ?_
    obtain ⟨v8, ev8, h⟩ := h.nam
    refine S.effN rfl rfl (.storeP sz35 (lk 0 rfl rfl) (lk 2 rfl rfl) rfl (.refl _) rfl (.st rfl (flL_c (show flen _ = 1 from rfl) (flL_c (show flen _ = 1 from rfl) (flL_c (show flen _ = 1 from rfl) (flL_c (ty_TRights.fl v7.Down) flL_nil)))) .nil) (by first | rfl | omega) (.st rfl .nil rfl) (ty_TRights.fl r6) (ty_TRights.fl v7.Up) (congrArg (fun z => ([AObj.cells (E_TCounter z), .dead, .cells (E_TCounter (default : TCounter))] : List AObj)) ev8.symm)) trivial ?_
    refine S.nilD (by kernel_rfl) ?_
    refine thenQ_n ?_
    refine AWp.prune (.eq (lk 13 rfl rfl) rfl (.eq (lk 14 rfl rfl) rfl (.eq (lk 16 rfl rfl) rfl .nil))) ?_
    refine AWp.seq ?_
    refine W.reg [0, 1, 2] rfl ?_
    refine S.qui 38 rfl rfl (fun _ => .loadP sz37 ag37 (lk 2 rfl rfl) rfl .nil (by first | rfl | omega) (ty_TCounter.fl v8) rfl) ?_
    refine S.effN rfl rfl (.nf (H2 := [.cells (E_TCounter v8), .dead, .cells (E_TCounter v8)]) (.storeP sz37 (lk 2 rfl rfl) (lk 0 rfl rfl) rfl (.refl _) rfl .nil (by first | rfl | omega) .nil (ty_TCounter.fl v8) (ty_TCounter.fl (default : TCounter)) rfl) rfl rfl) trivial ?_
    refine S.sil 5 rfl rfl (fun _ hF => .assign cI) ?_
    refine S.nil ?_
    refine thenQ_n ?_
    refine AWp.ret ?_
    refine endF_wk (Wk.freeze 2 rfl rfl (.same (lk 0 rfl rfl) (.same (lk 0 rfl rfl) (.cons (lk 3 rfl rfl) rfl (.ptr .nil (by first | rfl | omega)) .nil))) (.refl _)) ?_
    obtain rfl := h.ret
    exact endFN rfl (Wk.selS [] .nil rfl (SelE.leaf (lk 2 rfl rfl) rfl (.refl _) (fun m => (lt_cptr (ty_TCounter.lt _ _))) (SelE.leaf (lk 0 rfl rfl) rfl (.refl _) (fun m => ((TyOk.int .i64).lt _ _)) .nil)) .nil) (.cons (.cellC sz37 ag37 (lk 0 rfl rfl) (ty_TCounter.fl _) rfl) (.cons (.tmp (lk 1 rfl rfl) rfl) .nil)) rfl rfl rfl
theorem C_cloneO_54 {a1 : List THold} {r : List THold} (h : app 40 [] a1 = some r) : CallSpec Pg 54 [E_S_THold a1] [] fun o H' => o = .ret (.slo 5 0 [] 0 0 r.length 1) ∧ H' = [.buf 5 (List.map E_THold r)] := by
  refine CallSpec.of_bodyF 8 0 fn54 rfl rfl rfl (Nat.le_of_ble_eq_true rfl) ?_
  have hr := (app_get h).2
  refine AWp.seq ?_
  refine W.reg [0] rfl ?_
  refine S.sil 2 rfl rfl (fun _ hF => .assign cNs) ?_
  refine S.nil ?_
  refine thenQ_n ?_
  refine AWp.splitNil (t := 0) (lk 1 rfl rfl) (fun hn => ?_) ?_
  · obtain rfl : a1 = [] := List.map_eq_nil_iff.1 hn
    obtain rfl : r = [] := by simpa using hr
    refine AWp.seq ?_
    refine AWp.seq ?_
    refine W.reg [0, 1] rfl ?_
    refine S.sil 3 rfl rfl (fun _ hF => .move (lk 0 rfl rfl)) ?_
    refine S.sil 4 rfl rfl (fun _ hF => .eqlNil sli40 (lk 0 rfl rfl) cNs) ?_
    refine S.nil ?_
    refine thenQ_n ?_
    refine AWp.condT (lk 0 rfl rfl) ?_
    refine AWp.seq ?_
    refine W.reg [0] rfl ?_
    refine S.sil 2 rfl rfl (fun _ hF => .assign cNs) ?_
    refine S.nil ?_
    refine thenQ_n ?_
    refine AWp.ret ?_
    refine thenQ_r ?_
    refine endF_wk (Wk.nilbuf 5 (lk 0 rfl rfl)) ?_
    exact endF1 rfl (Wk.selS [0] (by decide) rfl (SelE.spec (lk 0 rfl rfl) rfl (.refl _) rfl rfl .nil) (.cons rfl rfl (ASub.refl _) .nil)) (.tmp (lk 0 rfl rfl) rfl) rfl rfl
  · refine AWp.seq ?_
    refine AWp.seq ?_
    refine W.reg [0, 1] rfl ?_
    refine S.sil 3 rfl rfl (fun _ hF => .move (lk 0 rfl rfl)) ?_
    refine S.sil 4 rfl rfl (fun _ hF => .eqlNn sli40 (lk 0 rfl rfl) cNs) ?_
    refine S.nil ?_
    refine thenQ_n ?_
    refine AWp.condF (lk 0 rfl rfl) ?_
    refine AWp.skip ?_
    refine thenQ_n ?_
    refine AWp.seq ?_
    refine W.reg [0, 1, 2, 3] rfl ?_
    refine S.sil 5 rfl rfl (fun _ hF => .buildSliceW sli40 zv101 rfl rfl (by decide) .nil) ?_
    refine S.sil 6 rfl rfl (fun _ hF => .move (lk 3 rfl rfl)) ?_
    refine S.new 7 rfl rfl (.appNewT sli40 und40 zv101 rfl (by decide) (lk 1 rfl rfl) (V.sub.refl _) (lk 0 rfl rfl) Rd.sl h rfl) trivial ?_
    refine S.sil 2 rfl rfl (fun _ hF => .assign (lk 0 rfl rfl)) ?_
    refine S.nil ?_
    refine thenQ_n ?_
    refine AWp.ret ?_
    exact endF1 rfl (Wk.selS [0] (by decide) rfl (SelE.spec (lk 0 rfl rfl) rfl (.refl _) rfl rfl .nil) (.cons (lt_buf ty_THold) rfl ⟨rfl, RSubL.leafr ty_THold _ rfl⟩ .nil)) (.tmp (lk 0 rfl rfl) rfl) rfl rfl
end Go.Av
namespace Go.Proofs
open Go.Shelf in
def Tryz.sort133_ren : Go.Shelf.Ren := ⟨fun | 6 => 133 | 15 => 130 | 14 => 191 | 28 => 187 | 29 => 188 | 20 => 222 | 21 => 223 | 22 => 224 | 23 => 225 | 24 => 226 | 25 => 227 | 26 => 228 | 27 => 229 | 46 => 236 | 47 => 218 | 48 => 219 | 49 => 237 | 50 => 238 | 57 => 240 | n => n, fun | 22 => 40 | 24 => 101 | 25 => 165 | 3 => 3 | 39 => 160 | 0 => 0 | 53 => 198 | 55 => 200 | 4 => 4 | 46 => 192 | 45 => 191 | 50 => 95 | 5 => 5 | 9 => 9 | 66 => 216 | 70 => 220 | 76 => 229 | 77 => 86 | n => n, fun | n => n⟩
open Go.Shelf in
theorem Tryz.sort133 : Go.Proofs.SlLaysF0.n6 Tryz.prog Tryz.sort133_ren := {
  mixed := by kernel_rfl
  f6 := ⟨Tryz.f133.name, by decide, Tryz.func133.trans (congrArg some (by kernel_rfl))⟩
  f14 := ⟨Tryz.f191.name, by decide, Tryz.func191.trans (congrArg some (by kernel_rfl))⟩
  f15 := Tryz.func130.trans (congrArg some (by kernel_rfl))
  f20 := ⟨Tryz.f222.name, by decide, Tryz.func222.trans (congrArg some (by kernel_rfl))⟩
  f21 := ⟨Tryz.f223.name, by decide, Tryz.func223.trans (congrArg some (by kernel_rfl))⟩
  f22 := ⟨Tryz.f224.name, by decide, Tryz.func224.trans (congrArg some (by kernel_rfl))⟩
  f23 := ⟨Tryz.f225.name, by decide, Tryz.func225.trans (congrArg some (by kernel_rfl))⟩
  f24 := ⟨Tryz.f226.name, by decide, Tryz.func226.trans (congrArg some (by kernel_rfl))⟩
  f25 := ⟨Tryz.f227.name, by decide, Tryz.func227.trans (congrArg some (by kernel_rfl))⟩
  f26 := ⟨Tryz.f228.name, by decide, Tryz.func228.trans (congrArg some (by kernel_rfl))⟩
  f27 := ⟨Tryz.f229.name, by decide, Tryz.func229.trans (congrArg some (by kernel_rfl))⟩
  f28 := Tryz.func187.trans (congrArg some (by kernel_rfl))
  f29 := Tryz.func188.trans (congrArg some (by kernel_rfl))
  f46 := ⟨Tryz.f236.name, by decide, Tryz.func236.trans (congrArg some (by kernel_rfl))⟩
  f47 := Tryz.func218.trans (congrArg some (by kernel_rfl))
  f48 := Tryz.func219.trans (congrArg some (by kernel_rfl))
  f49 := ⟨Tryz.f237.name, by decide, Tryz.func237.trans (congrArg some (by kernel_rfl))⟩
  f50 := ⟨Tryz.f238.name, by decide, Tryz.func238.trans (congrArg some (by kernel_rfl))⟩
  f57 := ⟨Tryz.f240.name, by decide, Tryz.func240.trans (congrArg some (by kernel_rfl))⟩
  t0 := Tryz.underlying0
  a0 := Tryz.isAgg0
  z0 := Tryz.sizeOf0
  v0 := Tryz.zeroValue0
  t3 := Tryz.underlying3
  a3 := Tryz.isAgg3
  z3 := Tryz.sizeOf3
  v3 := Tryz.zeroValue3
  t4 := Tryz.underlying4
  a4 := Tryz.isAgg4
  z4 := Tryz.sizeOf4
  v4 := Tryz.zeroValue4
  t5 := Tryz.underlying5
  a5 := Tryz.isAgg5
  z5 := Tryz.sizeOf5
  v5 := Tryz.zeroValue5
  t9 := Tryz.underlying9
  a9 := Tryz.isAgg9
  z9 := Tryz.sizeOf9
  v9 := Tryz.zeroValue9
  t22 := Tryz.underlying40
  a22 := Tryz.isAgg40
  z22 := Tryz.sizeOf40
  v22 := Tryz.zeroValue40
  t25 := Tryz.underlying165
  a25 := Tryz.isAgg165
  z25 := Tryz.sizeOf165
  v25 := Tryz.zeroValue165
  t39 := Tryz.underlying160
  a39 := Tryz.isAgg160
  z39 := Tryz.sizeOf160
  v39 := Tryz.zeroValue160
  t45 := Tryz.underlying191
  a45 := Tryz.isAgg191
  z45 := Tryz.sizeOf191
  v45 := Tryz.zeroValue191
  t46 := Tryz.underlying192
  a46 := Tryz.isAgg192
  z46 := Tryz.sizeOf192
  v46 := Tryz.zeroValue192
  t50 := Tryz.underlying95
  a50 := Tryz.isAgg95
  z50 := Tryz.sizeOf95
  v50 := Tryz.zeroValue95
  t53 := Tryz.underlying198
  a53 := Tryz.isAgg198
  z53 := Tryz.sizeOf198
  v53 := Tryz.zeroValue198
  t55 := Tryz.underlying200
  a55 := Tryz.isAgg200
  z55 := Tryz.sizeOf200
  v55 := Tryz.zeroValue200
  t66 := Tryz.underlying216
  a66 := Tryz.isAgg216
  z66 := Tryz.sizeOf216
  v66 := Tryz.zeroValue216
  t70 := Tryz.underlying220
  a70 := Tryz.isAgg220
  z70 := Tryz.sizeOf220
  v70 := Tryz.zeroValue220
  t76 := Tryz.underlying229
  a76 := Tryz.isAgg229
  z76 := Tryz.sizeOf229
  v76 := Tryz.zeroValue229
  t77 := Tryz.underlying86
  a77 := Tryz.isAgg86
  z77 := Tryz.sizeOf86
  v77 := Tryz.zeroValue86 }
end Go.Proofs
namespace Go.Av
open Go.Proofs
theorem srt133 : Go.Proofs.SlLaysF0.n6 Pg Go.Proofs.Tryz.sort133_ren := by rw [Pg_eq]; exact Go.Proofs.Tryz.sort133
theorem C_hold_Join {a1 : List THold} {a2 : List THold} {r : (List THold) × Int} (h : hold_Join a1 a2 = some r) : PureC Pg 58 [.sl 5 .no (List.map E_THold a1), .sl 5 .no (List.map E_THold a2)] (.tup [E_S_THold r.1, (V.int .i64) r.2]) := by
  refine PureC.ofF (CallSpec.of_bodyF 101 0 fn58 rfl rfl rfl (Nat.le_of_ble_eq_true rfl) ?_) (ltL_c (lt_sl rfl (ty_THold.ltm _ _)) (ltL_c (lt_sl rfl (ty_THold.ltm _ _)) ltL_nil)) (lt_tup (ltL_c (ty_S_THold.lt _ _) (ltL_c ((TyOk.int .i64).lt _ _) ltL_nil)))
  replace h := Ok.of h
  unfold hold_Join at h
  refine AWp.seq ?_
  refine W.reg [0, 1] rfl ?_
  refine S.sil 4 rfl rfl (fun _ hF => .assign cNs) ?_
  refine S.sil 5 rfl rfl (fun _ hF => .assign cI) ?_
  refine S.nil ?_
  refine thenQ_n ?_
  refine AWp.seq ?_
  refine AWp.seq ?_
  refine W.reg [0, 1, 2, 3, 4, 5, 6, 7] rfl ?_
  refine S.sil 14 rfl rfl (fun _ hF => .move (lk 2 rfl rfl)) ?_
  obtain ⟨r3, m3, h⟩ := h.bnd
  refine S.sil 15 rfl rfl (fun _ hF => .callQ ent132 cF (.c (lk 0 rfl rfl) (V.sub.refl _) .nil) (C_hold_Rights m3)) ?_
  refine S.sil 16 rfl rfl (fun _ hF => .not (lk 0 rfl rfl)) ?_
  refine S.sil 17 rfl rfl (fun _ hF => .move (lk 0 rfl rfl)) ?_
  refine S.gsil 18 3 17 false rfl rfl rfl (lk 0 rfl rfl) (fun hB _ hF => .move (lk 7 rfl rfl)) ?_
  obtain ⟨r4, m4, h⟩ := h.bnd
  refine S.gsil 19 3 17 false rfl rfl rfl (lk 1 rfl rfl) (fun hB _ hF => .callQ ent132 cF (.c (ifT hB (lk 0 rfl rfl)) (V.sub.refl _) .nil) (C_hold_Rights (gd_get m4 hB))) ?_
  refine S.gsil 20 3 17 false rfl rfl rfl (lk 2 rfl rfl) (fun hB _ hF => .not (ifT hB (lk 0 rfl rfl))) ?_
  refine S.sil 21 rfl rfl (fun _ hF => .pickOr (lk 3 rfl rfl) cB (fun h => ifT h (lk 0 rfl rfl))) ?_
  refine S.nil ?_
  refine thenQ_n ?_
  refine AWp.condM (lk 0 rfl rfl) h (fun c1 h => ?_) (fun c1 h => ?_)
  · skip
    refine AWp.seq ?_
    refine W.reg [0, 1] rfl ?_
    refine S.sil 4 rfl rfl (fun _ hF => .assign cNs) ?_
    refine S.sil 5 rfl rfl (fun _ hF => .assign cI) ?_
    refine S.nil ?_
    refine thenQ_n ?_
    refine AWp.prune (.eq (lk 0 rfl rfl) rfl (.eq (lk 1 rfl rfl) rfl (.eq (lk 12 rfl rfl) rfl (.eq (lk 13 rfl rfl) rfl .nil)))) ?_
    refine AWp.ret ?_
    refine thenQ_r ?_
    obtain rfl := h.ret
    exact endFN rfl (Wk.selS [] .nil rfl (SelE.leaf (lk 1 rfl rfl) rfl (.nils_no _) (fun m => (ty_S_THold.lt ([] : List THold) _)) (SelE.leaf (lk 0 rfl rfl) rfl (.refl _) (fun m => ((TyOk.int .i64).lt _ _)) .nil)) .nil) (.cons (.tmp (lk 0 rfl rfl) rfl) (.cons (.tmp (lk 1 rfl rfl) rfl) .nil)) rfl rfl rfl
  · skip
    refine AWp.skip ?_
    refine thenQ_n ?_
    refine AWp.seq ?_
    refine W.reg [0, 1] rfl ?_
    refine S.eff 22 rfl rfl (.nf (v2 := .map 0) (H2 := [.map (encE E_A2_i64 (V.int .i64) (AMap.empty : AMap (Vector Int 2) Int okInts).es)]) (.makeMap) rfl rfl) trivial ?_
    refine S.sil 6 rfl rfl (fun _ hF => .assign (lk 0 rfl rfl)) ?_
    refine S.nil ?_
    refine thenQ_n ?_
    refine AWp.seq ?_
    refine W.reg [0, 1, 2] rfl ?_
    refine S.sil 23 rfl rfl (fun _ hF => .move (lk 12 rfl rfl)) ?_
    obtain ⟨l5, m5, h⟩ := h.bnd
    refine S.eff 24 rfl rfl (.nf (v2 := .slo 5 1 [] 0 0 l5.length 1) (H2 := [.map (encE E_A2_i64 (V.int .i64) (AMap.empty : AMap (Vector Int 2) Int okInts).es), .buf 5 (List.map E_THold l5)]) (.callN ent54 cF [] (C_cloneO_54 m5) .nil .nil (ltL_c (ty_S_THold.lt _ _) ltL_nil) (.c (lk 0 rfl rfl) (vsubr (V.sub.refl _) (ty_S_THold.lt _ 0)) .nil) rfl (mapc (ren_buf ty_THold _) rfl) rfl) rfl rfl) trivial ?_
    refine S.sil 7 rfl rfl (fun _ hF => .assign (lk 0 rfl rfl)) ?_
    refine S.nil ?_
    refine thenQ_n ?_
    refine AWp.prune (.eq (lk 0 rfl rfl) rfl (.eq (lk 3 rfl rfl) rfl (.eq (lk 13 rfl rfl) rfl (.eq (lk 14 rfl rfl) rfl (.eq (lk 15 rfl rfl) rfl (.eq (lk 16 rfl rfl) rfl .nil)))))) ?_
    refine AWp.seq ?_
    refine AWp.seq ?_
    refine W.reg [0, 1, 2] rfl ?_
    refine S.sil 25 rfl rfl (fun _ hF => .move (lk 4 rfl rfl)) ?_
    refine S.sil 26 rfl rfl (fun _ hF => .lenT sli40 (lk 0 rfl rfl) (vsub rfl (.refl _))) ?_
    refine S.sil 27 rfl rfl (fun _ hF => .move cI) ?_
    refine S.nil ?_
    refine thenQ_n ?_
    refine AWp.cutX (fun x8 => ⟨[(7, .slo 5 0 [] 0 0 l5.length 1), (6, .map 1), (5, (V.int .i64) 0), (4, .nils), (1, .sl 5 .no (List.map E_THold a2))], [.buf 5 (List.map E_THold l5), .map (encE E_A2_i64 (V.int .i64) x8.es)]⟩) nc_then h (fun q6 hq6 => ?_) (fun x8 h => ?_)
    · refine AWp.block ?_
      refine AWp.loopT (fun s7 => ⟨[(27, (V.int .i64) s7.1), (26, (V.int .i64) (a1.length : Int)), (25, .sl 5 .no (List.map E_THold a1)), (7, .slo 5 0 [] 0 0 l5.length 1), (6, .map 1), (5, (V.int .i64) 0), (4, .nils), (1, .sl 5 .no (List.map E_THold a2))], [.buf 5 (List.map E_THold l5), .map (encE E_A2_i64 (V.int .i64) s7.2.es)]⟩) hq6 (Wk.selS [1, 0] (by decide) rfl (SelE.leaf (lk 0 rfl rfl) rfl (.refl _) (fun m => ((TyOk.int .i64).lt _ _)) (SelE.leaf (lk 1 rfl rfl) rfl (.refl _) (fun m => ((TyOk.int .i64).lt _ _)) (SelE.leaf (lk 2 rfl rfl) rfl (.refl _) (fun m => (lt_sl rfl (ty_THold.ltm _ _))) (SelE.spec (lk 3 rfl rfl) rfl (.slo (by first | rfl | simp)) rfl rfl (SelE.spec (lk 4 rfl rfl) rfl (.refl _) rfl rfl (SelE.leaf (lk 5 rfl rfl) rfl (.refl _) (fun m => ((TyOk.int .i64).lt _ _)) (SelE.leaf (lk 6 rfl rfl) rfl (.refl _) (fun m => rfl) (SelE.leaf (lk 8 rfl rfl) rfl (.refl _) (fun m => (lt_sl rfl (ty_THold.ltm _ _))) .nil)))))))) (.cons (lt_buf ty_THold) rfl ⟨rfl, RSubL.leafr ty_THold _ rfl⟩ (.cons (lt_map ty_A2_i64 (TyOk.int .i64)) rfl (asub_map ty_A2_i64 (TyOk.int .i64) _) .nil))) (fun _ s7 h6 => ?_)
      rw [hold_Join_L1] at h6
      refine AWp.seq ?_
      refine W.reg [0] rfl ?_
      refine S.sil 28 rfl rfl (fun _ hF => .lss (lk 0 rfl rfl) (lk 1 rfl rfl)) ?_
      refine S.nil ?_
      refine thenQ_n ?_
      refine AWp.seq ?_
      refine AWp.condM (lk 0 rfl rfl) h6 (fun c2 h6 => ?_) (fun c2 h6 => ?_)
      · skip
        refine AWp.skip ?_
        refine thenQ_n ?_
        refine AWp.seq ?_
        refine AWp.block ?_
        refine AWp.seq ?_
        refine W.reg [0, 1, 2, 3, 4, 5] rfl ?_
        refine S.sil 29 rfl rfl (fun _ hF => .move (lk 1 rfl rfl)) ?_
        obtain ⟨j9, m9, h6⟩ := h6.bnd
        refine S.sil 30 rfl rfl (fun _ hF => .ixS sli40 (lk 4 rfl rfl) (lk 2 rfl rfl) m9) ?_
        obtain ⟨v10, ev10, h6⟩ := h6.nam
        refine S.sil 31 rfl rfl (fun _ hF => .nv (.loadC sz101 ag101 (lk 0 rfl rfl) (ty_THold.fl (a1.getD j9 default)) rfl) (congrArg E_THold ev10.symm)) ?_
        refine S.eff 9 rfl rfl (.nf (v2 := .ptr 2 [] 0) (H2 := [.buf 5 (List.map E_THold l5), .map (encE E_A2_i64 (V.int .i64) s7.2.es), .cells (E_THold (default : THold))]) (.alloc zv101) rfl rfl) trivial ?_
        refine S.sil 8 rfl rfl (fun _ hF => .assign (lk 3 rfl rfl)) ?_
        refine S.effN rfl rfl (.nf (H2 := [.buf 5 (List.map E_THold l5), .map (encE E_A2_i64 (V.int .i64) s7.2.es), .cells (E_THold v10)]) (.storeP sz101 (lk 1 rfl rfl) (lk 2 rfl rfl) rfl (.refl _) rfl .nil (by first | rfl | omega) .nil (ty_THold.fl v10) (ty_THold.fl (default : THold)) rfl) rfl rfl) trivial ?_
        refine S.nil ?_
        refine thenQ_n ?_
        refine AWp.wk (Wk.freeze 2 rfl rfl (.same (lk 0 rfl rfl) (.cons (lk 1 rfl rfl) rfl (.ptr .nil (by first | rfl | omega)) (.same (lk 2 rfl rfl) (.same (lk 3 rfl rfl) (.same (lk 4 rfl rfl) (.same (lk 5 rfl rfl) (.same (lk 6 rfl rfl) (.same (lk 7 rfl rfl) (.same (lk 8 rfl rfl) (.same (lk 9 rfl rfl) (.same (lk 10 rfl rfl) (.same (lk 11 rfl rfl) (.same (lk 12 rfl rfl) (.same (lk 13 rfl rfl) .nil)))))))))))))) (.refl _)) ?_
        refine W.reg [0, 1, 2, 3, 4, 5, 6, 7] rfl ?_
        refine S.sil 32 rfl rfl (fun _ hF => .move (lk 10 rfl rfl)) ?_
        refine S.sil 33 rfl rfl (fun _ hF => .fieldAddrC lay101 rfl rfl (lk 2 rfl rfl) rfl flL_nil) ?_
        refine S.sil 34 rfl rfl (fun _ hF => .loadC sz3 ag3 (lk 0 rfl rfl) rfl rfl) ?_
        refine S.sil 35 rfl rfl (fun _ hF => .fieldAddrC lay101 rfl rfl (lk 4 rfl rfl) rfl (flL_c (show flen _ = 1 from rfl) flL_nil)) ?_
        refine S.sil 36 rfl rfl (fun _ hF => .loadC sz3 ag3 (lk 0 rfl rfl) rfl rfl) ?_
        refine S.sil 37 rfl rfl (fun _ hF => .buildArrL (w := E_A2_i64 (#v[v10.Replica, v10.Number] : Vector Int 2)) arr163 zv163 (.cons (lk 2 rfl rfl) rfl rfl rfl (.cons (lk 0 rfl rfl) rfl rfl rfl .nil)) rfl rfl) ?_
        refine S.sil 38 rfl rfl (fun _ hF => .move (lk 6 rfl rfl)) ?_
        obtain ⟨p11, m11, h6⟩ := h6.bnd
        refine S.effN rfl rfl (.nf (H2 := [.buf 5 (List.map E_THold l5), .map (encE E_A2_i64 (V.int .i64) p11.es), .dead]) (.mapPutT und162 key163 kt163 ((TyOk.int .i64).ok) (lk 6 rfl rfl) (lk 1 rfl rfl) (lk 0 rfl rfl) rfl m11 rfl) rfl rfl) trivial ?_
        refine S.nil ?_
        refine blockQ_n ?_
        refine thenQ_n ?_
        refine W.reg [0, 1] rfl ?_
        refine S.sil 39 rfl rfl (fun _ hF => .add (lk 13 rfl rfl) cI) ?_
        refine S.sil 27 rfl rfl (fun _ hF => .move (lk 0 rfl rfl)) ?_
        refine S.nil ?_
        refine thenQ_n ?_
        exact ⟨_, h6.ret, (Wk.selS [0, 1] (by decide) rfl (SelE.leaf (lk 0 rfl rfl) rfl (.refl _) (fun m => ((TyOk.int .i64).lt _ _)) (SelE.leaf (lk 16 rfl rfl) rfl (.refl _) (fun m => ((TyOk.int .i64).lt _ _)) (SelE.leaf (lk 17 rfl rfl) rfl (.refl _) (fun m => (lt_sl rfl (ty_THold.ltm _ _))) (SelE.spec (lk 18 rfl rfl) rfl (.slo (by first | rfl | simp)) rfl rfl (SelE.spec (lk 19 rfl rfl) rfl (.refl _) rfl rfl (SelE.leaf (lk 20 rfl rfl) rfl (.refl _) (fun m => ((TyOk.int .i64).lt _ _)) (SelE.leaf (lk 21 rfl rfl) rfl (.refl _) (fun m => rfl) (SelE.leaf (lk 22 rfl rfl) rfl (.refl _) (fun m => (lt_sl rfl (ty_THold.ltm _ _))) .nil)))))))) (.cons (lt_buf ty_THold) rfl ⟨rfl, RSubL.leafr ty_THold _ rfl⟩ (.cons (lt_map ty_A2_i64 (TyOk.int .i64)) rfl (asub_map ty_A2_i64 (TyOk.int .i64) _) .nil)))⟩
      · skip
        refine AWp.exit ?_
        refine thenQ_x ?_
        refine thenQ_x ?_
        refine blockQ_x ?_
        refine thenQ_n ?_
        exact ⟨_, h6.ret, (Wk.selS [0, 1] (by decide) rfl (SelE.spec (lk 4 rfl rfl) rfl (.slo (by first | rfl | simp)) rfl rfl (SelE.spec (lk 5 rfl rfl) rfl (.refl _) rfl rfl (SelE.leaf (lk 6 rfl rfl) rfl (.refl _) (fun m => ((TyOk.int .i64).lt _ _)) (SelE.leaf (lk 7 rfl rfl) rfl (.refl _) (fun m => rfl) (SelE.leaf (lk 8 rfl rfl) rfl (.refl _) (fun m => (lt_sl rfl (ty_THold.ltm _ _))) .nil))))) (.cons (lt_buf ty_THold) rfl ⟨rfl, RSubL.leafr ty_THold _ rfl⟩ (.cons (lt_map ty_A2_i64 (TyOk.int .i64)) rfl (asub_map ty_A2_i64 (TyOk.int .i64) _) .nil)))⟩
    · skip
      refine thenQ_n ?_
      refine AWp.seq ?_
      refine AWp.seq ?_
      refine W.reg [0, 1, 2] rfl ?_
      refine S.sil 40 rfl rfl (fun _ hF => .move (lk 4 rfl rfl)) ?_
      refine S.sil 41 rfl rfl (fun _ hF => .lenT sli40 (lk 0 rfl rfl) (vsub rfl (.refl _))) ?_
      refine S.sil 42 rfl rfl (fun _ hF => .move cI) ?_
      refine S.nil ?_
      refine thenQ_n ?_
      refine AWp.cutL (fun x14 => ⟨[(7, .slo 5 0 [] 0 0 x14.length 1), (5, (V.int .i64) 0), (4, .nils)], [.buf 5 (List.map E_THold x14)]⟩) nc_then h (fun q12 hq12 h => ?_) (fun x14 h => ?_)
      · refine AWp.block ?_
        refine AWp.loopT (fun s13 => ⟨[(42, (V.int .i64) s13.1), (41, (V.int .i64) (a2.length : Int)), (40, .sl 5 .no (List.map E_THold a2)), (7, .slo 5 0 [] 0 0 s13.2.length 1), (6, .map 1), (5, (V.int .i64) 0), (4, .nils)], [.buf 5 (List.map E_THold s13.2), .map (encE E_A2_i64 (V.int .i64) x8.es)]⟩) hq12 (Wk.selS [0, 1] (by decide) rfl (SelE.leaf (lk 0 rfl rfl) rfl (.refl _) (fun m => ((TyOk.int .i64).lt _ _)) (SelE.leaf (lk 1 rfl rfl) rfl (.refl _) (fun m => ((TyOk.int .i64).lt _ _)) (SelE.leaf (lk 2 rfl rfl) rfl (.refl _) (fun m => (lt_sl rfl (ty_THold.ltm _ _))) (SelE.spec (lk 3 rfl rfl) rfl (.slo (by first | rfl | simp)) rfl rfl (SelE.spec (lk 4 rfl rfl) rfl (.refl _) rfl rfl (SelE.leaf (lk 5 rfl rfl) rfl (.refl _) (fun m => ((TyOk.int .i64).lt _ _)) (SelE.leaf (lk 6 rfl rfl) rfl (.refl _) (fun m => rfl) .nil))))))) (.cons (lt_buf ty_THold) rfl ⟨rfl, RSubL.leafr ty_THold _ rfl⟩ (.cons (lt_map ty_A2_i64 (TyOk.int .i64)) rfl (asub_map ty_A2_i64 (TyOk.int .i64) _) .nil))) (fun _ s13 h12 => ?_)
        rw [hold_Join_L2] at h12
        refine AWp.seq ?_
        refine W.reg [0] rfl ?_
        refine S.sil 43 rfl rfl (fun _ hF => .lss (lk 0 rfl rfl) (lk 1 rfl rfl)) ?_
        refine S.nil ?_
        refine thenQ_n ?_
        refine AWp.seq ?_
        refine AWp.condM (lk 0 rfl rfl) h12 (fun c3 h12 => ?_) (fun c3 h12 => ?_)
        · skip
          refine AWp.skip ?_
          refine thenQ_n ?_
          refine AWp.seq ?_
          refine AWp.block ?_
          refine AWp.seq ?_
          refine W.reg [0, 1, 2, 3] rfl ?_
          obtain ⟨j15, m15, h12⟩ := h12.bnd
          refine S.sil 44 rfl rfl (fun _ hF => .ixS sli40 (lk 3 rfl rfl) (lk 1 rfl rfl) m15) ?_
          obtain ⟨v16, ev16, h12⟩ := h12.nam
          refine S.sil 45 rfl rfl (fun _ hF => .nv (.loadC sz101 ag101 (lk 0 rfl rfl) (ty_THold.fl (a2.getD j15 default)) rfl) (congrArg E_THold ev16.symm)) ?_
          refine S.eff 11 rfl rfl (.nf (v2 := .ptr 2 [] 0) (H2 := [.buf 5 (List.map E_THold s13.2), .map (encE E_A2_i64 (V.int .i64) x8.es), .cells (E_THold (default : THold))]) (.alloc zv101) rfl rfl) trivial ?_
          refine S.effN rfl rfl (.nf (H2 := [.buf 5 (List.map E_THold s13.2), .map (encE E_A2_i64 (V.int .i64) x8.es), .cells (E_THold v16)]) (.storeP sz101 (lk 0 rfl rfl) (lk 1 rfl rfl) rfl (.refl _) rfl .nil (by first | rfl | omega) .nil (ty_THold.fl v16) (ty_THold.fl (default : THold)) rfl) rfl rfl) trivial ?_
          refine S.nil ?_
          refine thenQ_n ?_
          refine AWp.wk (Wk.freeze 2 rfl rfl (.cons (lk 0 rfl rfl) rfl (.ptr .nil (by first | rfl | omega)) (.same (lk 1 rfl rfl) (.same (lk 2 rfl rfl) (.same (lk 3 rfl rfl) (.same (lk 4 rfl rfl) (.same (lk 5 rfl rfl) (.same (lk 6 rfl rfl) (.same (lk 7 rfl rfl) (.same (lk 8 rfl rfl) (.same (lk 9 rfl rfl) (.same (lk 10 rfl rfl) .nil))))))))))) (.refl _)) ?_
          refine AWp.seq ?_
          refine W.reg [0, 1, 2, 3, 4, 5, 6, 7, 8, 9, 10, 11] rfl ?_
          refine S.sil 47 rfl rfl (fun _ hF => .move (lk 8 rfl rfl)) ?_
          refine S.sil 48 rfl rfl (fun _ hF => .fieldAddrC lay101 rfl rfl (lk 1 rfl rfl) rfl flL_nil) ?_
          refine S.sil 49 rfl rfl (fun _ hF => .loadC sz3 ag3 (lk 0 rfl rfl) rfl rfl) ?_
          refine S.sil 50 rfl rfl (fun _ hF => .fieldAddrC lay101 rfl rfl (lk 3 rfl rfl) rfl (flL_c (show flen _ = 1 from rfl) flL_nil)) ?_
          refine S.sil 51 rfl rfl (fun _ hF => .loadC sz3 ag3 (lk 0 rfl rfl) rfl rfl) ?_
          refine S.sil 52 rfl rfl (fun _ hF => .buildArrL (w := E_A2_i64 (#v[v16.Replica, v16.Number] : Vector Int 2)) arr163 zv163 (.cons (lk 2 rfl rfl) rfl rfl rfl (.cons (lk 0 rfl rfl) rfl rfl rfl .nil)) rfl rfl) ?_
          obtain ⟨o17, m17, h12⟩ := h12.bnd
          refine S.qui 53 rfl rfl (fun _ => .mapGetT und162 key163 kt163 ((TyOk.int .i64).ok) zv3 (lk 5 rfl rfl) (lk 0 rfl rfl) rfl m17) ?_
          refine S.sil 46 rfl rfl (fun _ hF => .move (lk 0 rfl rfl)) ?_
          refine S.sil 54 rfl rfl (fun _ hF => .extract (lk 0 rfl rfl) rfl) ?_
          refine S.sil 55 rfl rfl (fun _ hF => .extract (lk 1 rfl rfl) rfl) ?_
          refine S.sil 12 rfl rfl (fun _ hF => .assign (lk 1 rfl rfl)) ?_
          refine S.sil 13 rfl rfl (fun _ hF => .assign (lk 1 rfl rfl)) ?_
          refine S.nil ?_
          refine thenQ_n ?_
          refine AWp.block ?_
          refine AWp.seq ?_
          refine W.reg [0, 1, 2] rfl ?_
          refine S.sil 69 rfl rfl (fun _ hF => .move (lk 0 rfl rfl)) ?_
          refine S.sil 70 rfl rfl (fun _ hF => .not (lk 0 rfl rfl)) ?_
          refine S.sil 68 rfl rfl (fun _ hF => .assign (lk 0 rfl rfl)) ?_
          refine S.nil ?_
          refine thenQ_n ?_
          refine AWp.condM (lk 0 rfl rfl) h12 (fun c4 h12 => ?_) (fun c4 h12 => ?_)
          · skip
            refine W.reg [0, 1, 2, 3, 4] rfl ?_
            refine S.sil 71 rfl rfl (fun _ hF => .move (lk 22 rfl rfl)) ?_
            refine S.sil 72 rfl rfl (fun _ hF => .loadC sz101 ag101 (lk 16 rfl rfl) (ty_THold.fl v16) rfl) ?_
            refine S.sil 73 rfl rfl (fun _ hF => .buildSliceW sli40 zv101 rfl rfl (by decide) (.cons (lk 0 rfl rfl) rfl (.refl _) (ty_THold.fl v16) .nil)) ?_
            obtain ⟨l18, m18, h12⟩ := h12.bnd
            refine S.eff 74 rfl rfl (.nf (v2 := .slo 5 3 [] 0 0 l18.length 1) (H2 := [.dead, .map (encE E_A2_i64 (V.int .i64) x8.es), .dead, .buf 5 (List.map E_THold l18)]) (.appOwnT sli40 und40 zv101 rfl (by decide) (lk 2 rfl rfl) rfl (by first | rfl | simp) (lk 0 rfl rfl) Rd.sl m18 rfl) rfl rfl) trivial ?_
            refine S.sil 7 rfl rfl (fun _ hF => .assign (lk 0 rfl rfl)) ?_
            refine S.nil ?_
            refine blockQ_n ?_
            refine blockQ_n ?_
            refine thenQ_n ?_
            refine W.reg [0, 1] rfl ?_
            refine S.sil 94 rfl rfl (fun _ hF => .add (lk 24 rfl rfl) cI) ?_
            refine S.sil 42 rfl rfl (fun _ hF => .move (lk 0 rfl rfl)) ?_
            refine S.nil ?_
            refine thenQ_n ?_
            exact ⟨_, h12.ret, (Wk.selS [3, 1] (by decide) rfl (SelE.leaf (lk 0 rfl rfl) rfl (.refl _) (fun m => ((TyOk.int .i64).lt _ _)) (SelE.leaf (lk 27 rfl rfl) rfl (.refl _) (fun m => ((TyOk.int .i64).lt _ _)) (SelE.leaf (lk 28 rfl rfl) rfl (.refl _) (fun m => (lt_sl rfl (ty_THold.ltm _ _))) (SelE.spec (lk 2 rfl rfl) rfl (.slo (by first | rfl | simp)) rfl rfl (SelE.spec (lk 30 rfl rfl) rfl (.refl _) rfl rfl (SelE.leaf (lk 31 rfl rfl) rfl (.refl _) (fun m => ((TyOk.int .i64).lt _ _)) (SelE.leaf (lk 32 rfl rfl) rfl (.refl _) (fun m => rfl) .nil))))))) (.cons (lt_buf ty_THold) rfl ⟨rfl, RSubL.leafr ty_THold _ rfl⟩ (.cons (lt_map ty_A2_i64 (TyOk.int .i64)) rfl (asub_map ty_A2_i64 (TyOk.int .i64) _) .nil)))⟩
          · skip
            refine AWp.seq ?_
            refine W.regD [0, 1, 2, 3, 4, 5, 6, 7, 8, 9, 10, 11, 12, 13, 14, 15, 16, 17, 18] mixed ?_
            refine S.sil 76 rfl rfl (fun _ hF => .move (lk 22 rfl rfl)) ?_
            refine S.sil 77 rfl rfl (fun _ hF => .move (lk 5 rfl rfl)) ?_
            obtain ⟨j19, m19, h12⟩ := h12.bnd
            refine S.sil 78 rfl rfl (fun _ hF => .ixO sli40 (lk 1 rfl rfl) (lk 0 rfl rfl) (by first | rfl | simp) m19) ?_
            refine S.sil 79 rfl rfl (fun _ hF => .fieldAddr lay101 rfl rfl (lk 0 rfl rfl)) ?_
            refine S.qui 80 rfl rfl (fun _ => .loadB sz3 ag3 (lk 0 rfl rfl) rfl (.ls (by have := six_lt m19; simp at this ⊢; omega) (.st rfl (flL_c (show flen _ = 1 from rfl) (flL_c (show flen _ = 1 from rfl) flL_nil)) .nil)) (by first | rfl | omega) rfl rfl) ?_
            refine S.sil 81 rfl rfl (fun _ hF => .fieldAddrC lay101 rfl rfl (lk 20 rfl rfl) rfl (flL_c (show flen _ = 1 from rfl) (flL_c (show flen _ = 1 from rfl) flL_nil))) ?_
            refine S.sil 82 rfl rfl (fun _ hF => .loadC sz3 ag3 (lk 0 rfl rfl) rfl rfl) ?_
            refine S.sil 83 rfl rfl (fun _ hF => .neq (lk 2 rfl rfl) (lk 0 rfl rfl)) ?_
            refine S.sil 84 rfl rfl (fun _ hF => .move (lk 0 rfl rfl)) ?_
            refine S.gsil 85 8 84 false rfl rfl rfl (lk 0 rfl rfl) (fun hB _ hF => .move (lk 31 rfl rfl)) ?_
            refine S.gsil 86 8 84 false rfl rfl rfl (lk 1 rfl rfl) (fun hB _ hF => .move (lk 14 rfl rfl)) ?_
            obtain ⟨j20, m20, h12⟩ := h12.bnd
            refine S.gsil 87 8 84 false rfl rfl rfl (lk 2 rfl rfl) (fun hB _ hF => .ixO sli40 (ifT hB (lk 1 rfl rfl)) (ifT hB (lk 0 rfl rfl)) (by first | rfl | simp) (gd_get m20 hB)) ?_
            refine S.gsil 88 8 84 false rfl rfl rfl (lk 3 rfl rfl) (fun hB _ hF => .fieldAddr lay101 rfl rfl (ifT hB (lk 0 rfl rfl))) ?_
            refine S.gqui 89 8 84 false rfl rfl rfl (lk 4 rfl rfl) (fun hB _ => .loadB sz3 ag3 (ifT hB (lk 0 rfl rfl)) rfl (.ls (by have := six_lt (gd_get m20 hB); simp at this ⊢; omega) (.st rfl (flL_c (show flen _ = 1 from rfl) (flL_c (show flen _ = 1 from rfl) (flL_c (show flen _ = 1 from rfl) flL_nil))) .nil)) (by first | rfl | omega) rfl rfl) ?_
            refine S.gsil 90 8 84 false rfl rfl rfl (lk 5 rfl rfl) (fun hB _ hF => .fieldAddrC lay101 rfl rfl (lk 29 rfl rfl) rfl (flL_c (show flen _ = 1 from rfl) (flL_c (show flen _ = 1 from rfl) (flL_c (show flen _ = 1 from rfl) flL_nil)))) ?_
            refine S.gsil 91 8 84 false rfl rfl rfl (lk 6 rfl rfl) (fun hB _ hF => .loadC sz3 ag3 (ifT hB (lk 0 rfl rfl)) rfl rfl) ?_
            refine S.gsil 92 8 84 false rfl rfl rfl (lk 7 rfl rfl) (fun hB _ hF => .neq (ifT hB (lk 2 rfl rfl)) (ifT hB (lk 0 rfl rfl))) ?_
            obtain ⟨v21, ev21, h12⟩ := h12.nam
            refine S.sil 93 rfl rfl (fun _ hF => .nv (.pickOr (lk 8 rfl rfl) cB (fun h => ifT h (lk 0 rfl rfl))) (congrArg V.bool ev21.symm)) ?_
            refine S.sil 75 rfl rfl (fun _ hF => .assign (lk 0 rfl rfl)) ?_
            refine S.nilD (by kernel_rfl) ?_
            refine thenQ_n ?_
            refine AWp.condM (lk 0 rfl rfl) h12 (fun c5 h12 => ?_) (fun c5 h12 => ?_)
            · skip
              refine AWp.seq ?_
              refine W.reg [0, 1] rfl ?_
              refine S.sil 4 rfl rfl (fun _ hF => .assign cNs) ?_
              refine S.sil 5 rfl rfl (fun _ hF => .assign cI) ?_
              refine S.nil ?_
              refine thenQ_n ?_
              refine AWp.prune (.eq (lk 0 rfl rfl) rfl (.eq (lk 1 rfl rfl) rfl (.eq (lk 2 rfl rfl) rfl (.eq (lk 3 rfl rfl) rfl (.eq (lk 12 rfl rfl) rfl (.eq (lk 13 rfl rfl) rfl (.eq (lk 14 rfl rfl) rfl (.eq (lk 15 rfl rfl) rfl (.eq (lk 16 rfl rfl) rfl (.eq (lk 17 rfl rfl) rfl (.eq (lk 18 rfl rfl) rfl (.eq (lk 19 rfl rfl) rfl (.eq (lk 20 rfl rfl) rfl (.eq (lk 21 rfl rfl) rfl (.eq (lk 22 rfl rfl) rfl (.eq (lk 23 rfl rfl) rfl (.eq (lk 24 rfl rfl) rfl (.eq (lk 25 rfl rfl) rfl (.eq (lk 26 rfl rfl) rfl (.eq (lk 27 rfl rfl) rfl (.eq (lk 28 rfl rfl) rfl (.eq (lk 29 rfl rfl) rfl (.eq (lk 30 rfl rfl) rfl (.eq (lk 31 rfl rfl) rfl (.eq (lk 32 rfl rfl) rfl (.eq (lk 33 rfl rfl) rfl (.eq (lk 34 rfl rfl) rfl (.eq (lk 35 rfl rfl) rfl (.eq (lk 36 rfl rfl) rfl (.eq (lk 37 rfl rfl) rfl (.eq (lk 38 rfl rfl) rfl (.eq (lk 39 rfl rfl) rfl (.eq (lk 40 rfl rfl) rfl (.eq (lk 41 rfl rfl) rfl (.eq (lk 42 rfl rfl) rfl (.eq (lk 43 rfl rfl) rfl (.eq (lk 44 rfl rfl) rfl .nil))))))))))))))))))))))))))))))))))))) ?_
              refine AWp.ret ?_
              refine blockQ_r ?_
              refine blockQ_r ?_
              refine thenQ_r ?_
              refine thenQ_r ?_
              refine blockQ_r ?_
              refine thenQ_r ?_
              refine thenQ_r ?_
              have h := Ok.inrq h h12.ret
              obtain rfl := h.ret
              exact endFN rfl (Wk.selS [] .nil rfl (SelE.leaf (lk 1 rfl rfl) rfl (.nils_no _) (fun m => (ty_S_THold.lt ([] : List THold) _)) (SelE.leaf (lk 0 rfl rfl) rfl (.refl _) (fun m => ((TyOk.int .i64).lt _ _)) .nil)) .nil) (.cons (.tmp (lk 0 rfl rfl) rfl) (.cons (.tmp (lk 1 rfl rfl) rfl) .nil)) rfl rfl rfl
            · skip
              refine W.regD [0, 1, 2, 3, 4, 5, 6, 7, 8, 9, 10, 11, 12] mixed ?_
              refine S.sil 56 rfl rfl (fun _ hF => .move (lk 41 rfl rfl)) ?_
              refine S.sil 57 rfl rfl (fun _ hF => .move (lk 24 rfl rfl)) ?_
              refine S.sil 58 rfl rfl (fun _ hF => .move (lk 43 rfl rfl)) ?_
              refine S.sil 59 rfl rfl (fun _ hF => .move (lk 26 rfl rfl)) ?_
              obtain ⟨j22, m22, h12⟩ := h12.bnd
              refine S.sil 60 rfl rfl (fun _ hF => .ixO sli40 (lk 1 rfl rfl) (lk 0 rfl rfl) (by first | rfl | simp) m22) ?_
              refine S.sil 61 rfl rfl (fun _ hF => .fieldAddr lay101 rfl rfl (lk 0 rfl rfl)) ?_
              refine S.qui 62 rfl rfl (fun _ => .loadB sz3 ag3 (lk 0 rfl rfl) rfl (.ls (by have := six_lt m22; simp at this ⊢; omega) (.st rfl (flL_c (show flen _ = 1 from rfl) (flL_c (show flen _ = 1 from rfl) (flL_c (show flen _ = 1 from rfl) (flL_c (show flen _ = 1 from rfl) flL_nil)))) .nil)) (by first | rfl | omega) rfl rfl) ?_
              refine S.sil 63 rfl rfl (fun _ hF => .fieldAddrC lay101 rfl rfl (lk 41 rfl rfl) rfl (flL_c (show flen _ = 1 from rfl) (flL_c (show flen _ = 1 from rfl) (flL_c (show flen _ = 1 from rfl) (flL_c (show flen _ = 1 from rfl) flL_nil))))) ?_
              refine S.sil 64 rfl rfl (fun _ hF => .loadC sz3 ag3 (lk 0 rfl rfl) rfl rfl) ?_
              refine S.sil 65 rfl rfl (fun _ hF => .bmax (lk 2 rfl rfl) (lk 0 rfl rfl)) ?_
              obtain ⟨j23, m23, h12⟩ := h12.bnd
              refine S.sil 66 rfl rfl (fun _ hF => .ixO sli40 (lk 9 rfl rfl) (lk 8 rfl rfl) (by first | rfl | simp) m23) ?_
              refine S.sil 67 rfl rfl (fun _ hF => .fieldAddr lay101 rfl rfl (lk 0 rfl rfl)) ?_
              obtain ⟨v24, ev24, h12⟩ := h12.nam
              refine S.effN rfl rfl (.storeB sz3 (lk 0 rfl rfl) (lk 2 rfl rfl) rfl (.refl _) rfl (.ls (by have := six_lt m23; simp at this ⊢; omega) (.st rfl (flL_c (show flen _ = 1 from rfl) (flL_c (show flen _ = 1 from rfl) (flL_c (show flen _ = 1 from rfl) (flL_c (show flen _ = 1 from rfl) flL_nil)))) .nil)) (by first | rfl | omega) (.ls ({ (s13.2.getD j23 default) with State := (max ((s13.2.getD j22 default).State) v16.State) }) (by have := six_lt m23; simp at this ⊢; omega) (.st rfl .nil rfl)) rfl rfl (congrArg (fun z => ([AObj.buf 5 (List.map E_THold z), .map (encE E_A2_i64 (V.int .i64) x8.es), .dead] : List AObj)) ev24.symm)) trivial ?_
              refine S.nilD (by kernel_rfl) ?_
              refine blockQ_n ?_
              refine blockQ_n ?_
              refine thenQ_n ?_
              refine W.reg [0, 1] rfl ?_
              refine S.sil 94 rfl rfl (fun _ hF => .add (lk 50 rfl rfl) cI) ?_
              refine S.sil 42 rfl rfl (fun _ hF => .move (lk 0 rfl rfl)) ?_
              refine S.nil ?_
              refine thenQ_n ?_
              exact ⟨_, h12.ret, (Wk.selS [0, 1] (by decide) rfl (SelE.leaf (lk 0 rfl rfl) rfl (.refl _) (fun m => ((TyOk.int .i64).lt _ _)) (SelE.leaf (lk 53 rfl rfl) rfl (.refl _) (fun m => ((TyOk.int .i64).lt _ _)) (SelE.leaf (lk 54 rfl rfl) rfl (.refl _) (fun m => (lt_sl rfl (ty_THold.ltm _ _))) (SelE.spec (lk 55 rfl rfl) rfl (.slo (by first | rfl | simp [ev24, ev16])) rfl rfl (SelE.spec (lk 56 rfl rfl) rfl (.refl _) rfl rfl (SelE.leaf (lk 57 rfl rfl) rfl (.refl _) (fun m => ((TyOk.int .i64).lt _ _)) (SelE.leaf (lk 58 rfl rfl) rfl (.refl _) (fun m => rfl) .nil))))))) (.cons (lt_buf ty_THold) rfl ⟨rfl, RSubL.leafr ty_THold _ rfl⟩ (.cons (lt_map ty_A2_i64 (TyOk.int .i64)) rfl (asub_map ty_A2_i64 (TyOk.int .i64) _) .nil)))⟩
        · skip
          refine AWp.exit ?_
          refine thenQ_x ?_
          refine thenQ_x ?_
          refine blockQ_x ?_
          refine thenQ_n ?_
          exact ⟨_, h12.ret, (Wk.selS [0] (by decide) rfl (SelE.spec (lk 4 rfl rfl) rfl (.slo (by first | rfl | simp)) rfl rfl (SelE.leaf (lk 6 rfl rfl) rfl (.refl _) (fun m => ((TyOk.int .i64).lt _ _)) (SelE.leaf (lk 7 rfl rfl) rfl (.refl _) (fun m => rfl) .nil))) (.cons (lt_buf ty_THold) rfl ⟨rfl, RSubL.leafr ty_THold _ rfl⟩ .nil))⟩
      · skip
        refine thenQ_n ?_
        refine AWp.seq ?_
        refine AWp.seq ?_
        refine W.reg [0, 1, 2] rfl ?_
        refine S.sil 95 rfl rfl (fun _ hF => .move (lk 0 rfl rfl)) ?_
        refine S.sil 96 rfl rfl (fun _ hF => .lenO sli40 (lk 0 rfl rfl)) ?_
        refine S.sil 97 rfl rfl (fun _ hF => .gtr (lk 0 rfl rfl) cI) ?_
        refine S.nil ?_
        refine thenQ_n ?_
        refine AWp.condM (lk 0 rfl rfl) h (fun c6 h => ?_) (fun c6 h => ?_)
        · skip
          refine AWp.seq ?_
          refine W.reg [0, 1] rfl ?_
          refine S.sil 4 rfl rfl (fun _ hF => .assign cNs) ?_
          refine S.sil 5 rfl rfl (fun _ hF => .assign cI) ?_
          refine S.nil ?_
          refine thenQ_n ?_
          refine AWp.ret ?_
          refine thenQ_r ?_
          obtain rfl := h.ret
          exact endFN rfl (Wk.selS [] .nil rfl (SelE.leaf (lk 1 rfl rfl) rfl (.nils_no _) (fun m => (ty_S_THold.lt ([] : List THold) _)) (SelE.leaf (lk 0 rfl rfl) rfl (.refl _) (fun m => ((TyOk.int .i64).lt _ _)) .nil)) .nil) (.cons (.tmp (lk 0 rfl rfl) rfl) (.cons (.tmp (lk 1 rfl rfl) rfl) .nil)) rfl rfl rfl
        · skip
          refine AWp.skip ?_
          refine thenQ_n ?_
          refine AWp.seq ?_
          refine W.reg [0, 1] rfl ?_
          refine S.sil 98 rfl rfl (fun _ hF => .move (lk 3 rfl rfl)) ?_
          obtain ⟨l25, m25, h⟩ := h.bnd
          refine S.eff 99 rfl rfl (.nf (H2 := [.buf 5 (List.map E_THold l25)]) (.sortFunc (ρ := Go.Proofs.Tryz.sort133_ren) srt133 rfl rfl ag101 sz101 ty_THold holdCmp_swo ent133 ent134 ltL_nil (fun x y => C_hold_compare (hold_compare_eq x y)) cF (lk 0 rfl rfl) cF rfl (by first | rfl | simp) m25 rfl) rfl rfl) trivial ?_
          refine S.nil ?_
          refine thenQ_n ?_
          refine AWp.seq ?_
          refine W.reg [0, 1, 2] rfl ?_
          refine S.sil 100 rfl rfl (fun _ hF => .move (lk 5 rfl rfl)) ?_
          refine S.sil 4 rfl rfl (fun _ hF => .assign (lk 0 rfl rfl)) ?_
          refine S.sil 5 rfl rfl (fun _ hF => .assign cI) ?_
          refine S.nil ?_
          refine thenQ_n ?_
          refine AWp.ret ?_
          refine endF_wk (Wk.freeze 0 rfl rfl (.same (lk 0 rfl rfl) (.cons (lk 1 rfl rfl) rfl (.slo (by first | rfl | simp [(sort_len holdCmp_swo m25)])) (.same (lk 0 rfl rfl) (.same (lk 1 rfl rfl) .nil)))) (.refl _)) ?_
          obtain rfl := h.ret
          exact endFN rfl (Wk.selS [] .nil rfl (SelE.leaf (lk 1 rfl rfl) rfl (.refl _) (fun m => (ty_S_THold.lt _ _)) (SelE.leaf (lk 0 rfl rfl) rfl (.refl _) (fun m => ((TyOk.int .i64).lt _ _)) .nil)) .nil) (.cons (.tmp (lk 0 rfl rfl) rfl) (.cons (.tmp (lk 1 rfl rfl) rfl) .nil)) rfl rfl rfl
theorem C_lock_Compare {a1 : TLock} {a2 : TLock} {r : Int} (h : lock_Compare a1 a2 = some r) : PureC Pg 135 [E_TLock a1, E_TLock a2] ((V.int .i64) r) := by
  refine PureC.ofF (CallSpec.of_bodyF 42 0 fn135 rfl rfl rfl (Nat.le_of_ble_eq_true rfl) ?_) (ltL_c (ty_TLock.lt _ _) (ltL_c (ty_TLock.lt _ _) ltL_nil)) ((TyOk.int .i64).lt _ _)
  replace h := Ok.of h
  unfold lock_Compare at h
  refine AWp.seq ?_
  refine W.reg [0, 1, 2] rfl ?_
  refine S.eff 2 rfl rfl (.nf (v2 := .ptr 0 [] 0) (H2 := [.cells (E_TLock a1)]) (.box (lk 0 rfl rfl) rfl) rfl rfl) trivial ?_
  refine S.eff 3 rfl rfl (.nf (v2 := .ptr 1 [] 0) (H2 := [.cells (E_TLock a1), .cells (E_TLock a2)]) (.box (lk 2 rfl rfl) rfl) rfl rfl) trivial ?_
  refine S.sil 4 rfl rfl (fun _ hF => .assign cI) ?_
  refine S.nil ?_
  refine thenQ_n ?_
  refine AWp.wk (Wk.freeze 0 rfl rfl (.same (lk 0 rfl rfl) (.same (lk 1 rfl rfl) (.cons (lk 2 rfl rfl) rfl (.ptr .nil (by first | rfl | omega)) .nil))) (.refl _)) ?_
  refine AWp.wk (Wk.freeze 1 rfl rfl (.same (lk 0 rfl rfl) (.cons (lk 1 rfl rfl) rfl (.ptr .nil (by first | rfl | omega)) (.same (lk 2 rfl rfl) .nil))) (.refl _)) ?_
  refine AWp.seq ?_
  refine AWp.seq ?_
  refine W.reg [0, 1, 2, 3, 4, 5, 6, 7, 8, 9, 10, 11, 12, 13, 14, 15, 16, 17, 18, 19, 20, 21] rfl ?_
  refine S.sil 7 rfl rfl (fun _ hF => .fieldAddrC lay39 rfl rfl (lk 2 rfl rfl) rfl flL_nil) ?_
  refine S.sil 8 rfl rfl (fun _ hF => .loadC sz3 ag3 (lk 0 rfl rfl) rfl rfl) ?_
  refine S.sil 9 rfl rfl (fun _ hF => .fieldAddrC lay39 rfl rfl (lk 3 rfl rfl) rfl flL_nil) ?_
  refine S.sil 10 rfl rfl (fun _ hF => .loadC sz3 ag3 (lk 0 rfl rfl) rfl rfl) ?_
  refine S.sil 11 rfl rfl (fun _ hF => .buildArrL (w := E_A2_i64 (#v[a1.Seq, a2.Seq] : Vector Int 2)) arr163 zv163 (.cons (lk 2 rfl rfl) rfl rfl rfl (.cons (lk 0 rfl rfl) rfl rfl rfl .nil)) rfl rfl) ?_
  refine S.sil 12 rfl rfl (fun _ hF => .fieldAddrC lay39 rfl rfl (lk 7 rfl rfl) rfl (flL_c (show flen _ = 1 from rfl) flL_nil)) ?_
  refine S.sil 13 rfl rfl (fun _ hF => .loadC sz3 ag3 (lk 0 rfl rfl) rfl rfl) ?_
  refine S.sil 14 rfl rfl (fun _ hF => .fieldAddrC lay39 rfl rfl (lk 8 rfl rfl) rfl (flL_c (show flen _ = 1 from rfl) flL_nil)) ?_
  refine S.sil 15 rfl rfl (fun _ hF => .loadC sz3 ag3 (lk 0 rfl rfl) rfl rfl) ?_
  refine S.sil 16 rfl rfl (fun _ hF => .buildArrL (w := E_A2_i64 (#v[a1.Ver, a2.Ver] : Vector Int 2)) arr163 zv163 (.cons (lk 2 rfl rfl) rfl rfl rfl (.cons (lk 0 rfl rfl) rfl rfl rfl .nil)) rfl rfl) ?_
  refine S.sil 17 rfl rfl (fun _ hF => .fieldAddrC lay39 rfl rfl (lk 12 rfl rfl) rfl (flL_c (show flen _ = 1 from rfl) (flL_c (show flen _ = 1 from rfl) flL_nil))) ?_
  refine S.sil 18 rfl rfl (fun _ hF => .loadC sz3 ag3 (lk 0 rfl rfl) rfl rfl) ?_
  refine S.sil 19 rfl rfl (fun _ hF => .fieldAddrC lay39 rfl rfl (lk 13 rfl rfl) rfl (flL_c (show flen _ = 1 from rfl) (flL_c (show flen _ = 1 from rfl) flL_nil))) ?_
  refine S.sil 20 rfl rfl (fun _ hF => .loadC sz3 ag3 (lk 0 rfl rfl) rfl rfl) ?_
  refine S.sil 21 rfl rfl (fun _ hF => .buildArrL (w := E_A2_i64 (#v[a1.Holder, a2.Holder] : Vector Int 2)) arr163 zv163 (.cons (lk 2 rfl rfl) rfl rfl rfl (.cons (lk 0 rfl rfl) rfl rfl rfl .nil)) rfl rfl) ?_
  refine S.sil 22 rfl rfl (fun _ hF => .fieldAddrC lay39 rfl rfl (lk 17 rfl rfl) rfl (flL_c (show flen _ = 1 from rfl) (flL_c (show flen _ = 1 from rfl) (flL_c (show flen _ = 1 from rfl) flL_nil)))) ?_
  refine S.sil 23 rfl rfl (fun _ hF => .loadC sz3 ag3 (lk 0 rfl rfl) rfl rfl) ?_
  refine S.sil 24 rfl rfl (fun _ hF => .fieldAddrC lay39 rfl rfl (lk 18 rfl rfl) rfl (flL_c (show flen _ = 1 from rfl) (flL_c (show flen _ = 1 from rfl) (flL_c (show flen _ = 1 from rfl) flL_nil)))) ?_
  refine S.sil 25 rfl rfl (fun _ hF => .loadC sz3 ag3 (lk 0 rfl rfl) rfl rfl) ?_
  refine S.sil 26 rfl rfl (fun _ hF => .buildArrL (w := E_A2_i64 (#v[a1.Value, a2.Value] : Vector Int 2)) arr163 zv163 (.cons (lk 2 rfl rfl) rfl rfl rfl (.cons (lk 0 rfl rfl) rfl rfl rfl .nil)) rfl rfl) ?_
  refine S.sil 27 rfl rfl (fun _ hF => .buildArrL (w := E_A4_A2_i64 (#v[(#v[a1.Seq, a2.Seq] : Vector Int 2), (#v[a1.Ver, a2.Ver] : Vector Int 2), (#v[a1.Holder, a2.Holder] : Vector Int 2), (#v[a1.Value, a2.Value] : Vector Int 2)] : Vector (Vector Int 2) 4)) arr206 zv206 (.cons (lk 15 rfl rfl) rfl rfl (ty_A2_i64.fl (#v[a1.Seq, a2.Seq] : Vector Int 2)) (.cons (lk 10 rfl rfl) rfl rfl (ty_A2_i64.fl (#v[a1.Ver, a2.Ver] : Vector Int 2)) (.cons (lk 5 rfl rfl) rfl rfl (ty_A2_i64.fl (#v[a1.Holder, a2.Holder] : Vector Int 2)) (.cons (lk 0 rfl rfl) rfl rfl (ty_A2_i64.fl (#v[a1.Value, a2.Value] : Vector Int 2)) .nil)))) rfl rfl) ?_
  refine S.sil 28 rfl rfl (fun _ hF => .move cI) ?_
  refine S.nil ?_
  refine thenQ_n ?_
  refine AWp.prune (.eq (lk 0 rfl rfl) rfl (.eq (lk 1 rfl rfl) rfl (.eq (lk 22 rfl rfl) rfl .nil))) ?_
  refine AWp.cutL (fun x5 => ⟨[(4, (V.int .i64) 0)], []⟩) nc_then h (fun q3 hq3 h => ?_) (fun x5 h => ?_)
  · refine AWp.block ?_
    refine AWp.loopT (fun s4 => ⟨[(28, (V.int .i64) s4), (27, E_A4_A2_i64 (#v[(#v[a1.Seq, a2.Seq] : Vector Int 2), (#v[a1.Ver, a2.Ver] : Vector Int 2), (#v[a1.Holder, a2.Holder] : Vector Int 2), (#v[a1.Value, a2.Value] : Vector Int 2)] : Vector (Vector Int 2) 4)), (4, (V.int .i64) 0)], []⟩) hq3 (Wk.selS [] (by decide) rfl (SelE.leaf (lk 0 rfl rfl) rfl (.refl _) (fun m => ((TyOk.int .i64).lt _ _)) (SelE.leaf (lk 1 rfl rfl) rfl (.refl _) (fun m => (ty_A4_A2_i64.lt _ _)) (SelE.leaf (lk 2 rfl rfl) rfl (.refl _) (fun m => ((TyOk.int .i64).lt _ _)) .nil))) .nil) (fun _ s4 h3 => ?_)
    rw [lock_Compare_L1] at h3
    refine AWp.seq ?_
    refine W.reg [0] rfl ?_
    refine S.sil 29 rfl rfl (fun _ hF => .lss (lk 0 rfl rfl) cI) ?_
    refine S.nil ?_
    refine thenQ_n ?_
    refine AWp.seq ?_
    refine AWp.condM (lk 0 rfl rfl) h3 (fun c1 h3 => ?_) (fun c1 h3 => ?_)
    · skip
      refine AWp.skip ?_
      refine thenQ_n ?_
      refine AWp.seq ?_
      refine AWp.block ?_
      refine AWp.seq ?_
      refine W.reg [0, 1, 2] rfl ?_
      obtain ⟨k6, m6, h3⟩ := h3.bnd
      refine S.sil 30 rfl rfl (fun _ hF => .ixV arr206 (lk 2 rfl rfl) (lk 1 rfl rfl) m6 rfl) ?_
      refine S.eff 6 rfl rfl (.nf (v2 := .ptr 0 [] 0) (H2 := [.cells (E_A2_i64 (default : Vector Int 2))]) (.alloc zv163) rfl rfl) trivial ?_
      obtain ⟨v7, ev7, h3⟩ := h3.nam
      refine S.effN rfl rfl (.nf (H2 := [.cells (E_A2_i64 v7)]) (.storeP sz163 (lk 0 rfl rfl) (lk 1 rfl rfl) rfl (.refl _) rfl .nil (by first | rfl | omega) .nil (ty_A2_i64.fl ((#v[(#v[a1.Seq, a2.Seq] : Vector Int 2), (#v[a1.Ver, a2.Ver] : Vector Int 2), (#v[a1.Holder, a2.Holder] : Vector Int 2), (#v[a1.Value, a2.Value] : Vector Int 2)] : Vector (Vector Int 2) 4).get k6)) (ty_A2_i64.fl (default : Vector Int 2)) (congrArg (fun z => ([AObj.cells (E_A2_i64 z)] : List AObj)) ev7.symm)) rfl rfl) trivial ?_
      refine S.nil ?_
      refine thenQ_n ?_
      refine AWp.wk (Wk.freeze 0 rfl rfl (.cons (lk 0 rfl rfl) rfl (.ptr .nil (by first | rfl | omega)) (.same (lk 1 rfl rfl) (.same (lk 2 rfl rfl) (.same (lk 3 rfl rfl) (.same (lk 4 rfl rfl) (.same (lk 5 rfl rfl) .nil)))))) (.refl _)) ?_
      refine AWp.seq ?_
      refine W.reg [0, 1, 2, 3, 4] rfl ?_
      obtain ⟨k8, m8, h3⟩ := h3.bnd
      refine S.sil 31 rfl rfl (fun _ hF => .ixC arr163 (lk 0 rfl rfl) cI m8) ?_
      refine S.sil 32 rfl rfl (fun _ hF => .loadC sz3 ag3 (lk 0 rfl rfl) rfl rfl) ?_
      obtain ⟨k9, m9, h3⟩ := h3.bnd
      refine S.sil 33 rfl rfl (fun _ hF => .ixC arr163 (lk 2 rfl rfl) cI m9) ?_
      refine S.sil 34 rfl rfl (fun _ hF => .loadC sz3 ag3 (lk 0 rfl rfl) rfl rfl) ?_
      refine S.sil 35 rfl rfl (fun _ hF => .neq (lk 2 rfl rfl) (lk 0 rfl rfl)) ?_
      refine S.nil ?_
      refine thenQ_n ?_
      refine AWp.condM (lk 0 rfl rfl) h3 (fun c2 h3 => ?_) (fun c2 h3 => ?_)
      · skip
        refine AWp.seq ?_
        refine AWp.seq ?_
        refine W.reg [0, 1, 2, 3, 4] rfl ?_
        obtain ⟨k10, m10, h3⟩ := h3.bnd
        refine S.sil 36 rfl rfl (fun _ hF => .ixC arr163 (lk 5 rfl rfl) cI m10) ?_
        refine S.sil 37 rfl rfl (fun _ hF => .loadC sz3 ag3 (lk 0 rfl rfl) rfl rfl) ?_
        obtain ⟨k11, m11, h3⟩ := h3.bnd
        refine S.sil 38 rfl rfl (fun _ hF => .ixC arr163 (lk 7 rfl rfl) cI m11) ?_
        refine S.sil 39 rfl rfl (fun _ hF => .loadC sz3 ag3 (lk 0 rfl rfl) rfl rfl) ?_
        refine S.sil 40 rfl rfl (fun _ hF => .gtr (lk 2 rfl rfl) (lk 0 rfl rfl)) ?_
        refine S.nil ?_
        refine thenQ_n ?_
        refine AWp.condM (lk 0 rfl rfl) h3 (fun c3 h3 => ?_) (fun c3 h3 => ?_)
        · skip
          refine AWp.seq ?_
          refine W.reg [0] rfl ?_
          refine S.sil 4 rfl rfl (fun _ hF => .assign cI) ?_
          refine S.nil ?_
          refine thenQ_n ?_
          refine AWp.ret ?_
          refine thenQ_r ?_
          refine blockQ_r ?_
          refine thenQ_r ?_
          refine thenQ_r ?_
          refine blockQ_r ?_
          refine thenQ_r ?_
          refine thenQ_r ?_
          have h := Ok.inrq h h3.ret
          obtain rfl := h.ret
          exact endF1 rfl (Wk.selS [] .nil rfl (SelE.leaf (lk 0 rfl rfl) rfl (.refl _) (fun m => ((TyOk.int .i64).lt _ _)) .nil) .nil) (.tmp (lk 0 rfl rfl) rfl) rfl rfl
        · skip
          refine AWp.skip ?_
          refine thenQ_n ?_
          refine AWp.seq ?_
          refine W.reg [0] rfl ?_
          refine S.sil 4 rfl rfl (fun _ hF => .assign cI) ?_
          refine S.nil ?_
          refine thenQ_n ?_
          refine AWp.ret ?_
          refine blockQ_r ?_
          refine thenQ_r ?_
          refine thenQ_r ?_
          refine blockQ_r ?_
          refine thenQ_r ?_
          refine thenQ_r ?_
          have h := Ok.inrq h h3.ret
          obtain rfl := h.ret
          exact endF1 rfl (Wk.selS [] .nil rfl (SelE.leaf (lk 0 rfl rfl) rfl (.refl _) (fun m => ((TyOk.int .i64).lt _ _)) .nil) .nil) (.tmp (lk 0 rfl rfl) rfl) rfl rfl
      · skip
        refine AWp.skip ?_
        refine blockQ_n ?_
        refine thenQ_n ?_
        refine W.reg [0, 1] rfl ?_
        refine S.sil 41 rfl rfl (fun _ hF => .add (lk 8 rfl rfl) cI) ?_
        refine S.sil 28 rfl rfl (fun _ hF => .move (lk 0 rfl rfl)) ?_
        refine S.nil ?_
        refine thenQ_n ?_
        exact ⟨_, h3.ret, (Wk.selS [] (by decide) rfl (SelE.leaf (lk 0 rfl rfl) rfl (.refl _) (fun m => ((TyOk.int .i64).lt _ _)) (SelE.leaf (lk 11 rfl rfl) rfl (.refl _) (fun m => (ty_A4_A2_i64.lt _ _)) (SelE.leaf (lk 12 rfl rfl) rfl (.refl _) (fun m => ((TyOk.int .i64).lt _ _)) .nil))) .nil)⟩
    · skip
      refine AWp.exit ?_
      refine thenQ_x ?_
      refine thenQ_x ?_
      refine blockQ_x ?_
      refine thenQ_n ?_
      exact ⟨_, h3.ret, (Wk.selS [] (by decide) rfl (SelE.leaf (lk 3 rfl rfl) rfl (.refl _) (fun m => ((TyOk.int .i64).lt _ _)) .nil) .nil)⟩
  · skip
    refine thenQ_n ?_
    refine AWp.seq ?_
    refine W.reg [0] rfl ?_
    refine S.sil 4 rfl rfl (fun _ hF => .assign cI) ?_
    refine S.nil ?_
    refine thenQ_n ?_
    refine AWp.ret ?_
    obtain rfl := h.ret
    exact endF1 rfl (Wk.selS [] .nil rfl (SelE.leaf (lk 0 rfl rfl) rfl (.refl _) (fun m => ((TyOk.int .i64).lt _ _)) .nil) .nil) (.tmp (lk 0 rfl rfl) rfl) rfl rfl
theorem C_lock_Join {a1 : TLock} {a2 : TLock} {r : TLock} (h : lock_Join a1 a2 = some r) : PureC Pg 59 [E_TLock a1, E_TLock a2] (E_TLock r) := by
  refine PureC.ofF (CallSpec.of_bodyF 11 0 fn59 rfl rfl rfl (Nat.le_of_ble_eq_true rfl) ?_) (ltL_c (ty_TLock.lt _ _) (ltL_c (ty_TLock.lt _ _) ltL_nil)) (ty_TLock.lt _ _)
  replace h := Ok.of h
  unfold lock_Join at h
  refine AWp.seq ?_
  refine W.reg [0, 1, 2] rfl ?_
  refine S.eff 2 rfl rfl (.nf (v2 := .ptr 0 [] 0) (H2 := [.cells (E_TLock a1)]) (.box (lk 0 rfl rfl) rfl) rfl rfl) trivial ?_
  refine S.eff 3 rfl rfl (.nf (v2 := .ptr 1 [] 0) (H2 := [.cells (E_TLock a1), .cells (E_TLock a2)]) (.box (lk 2 rfl rfl) rfl) rfl rfl) trivial ?_
  refine S.eff 4 rfl rfl (.nf (v2 := .ptr 2 [] 0) (H2 := [.cells (E_TLock a1), .cells (E_TLock a2), .cells (E_TLock (default : TLock))]) (.alloc zv39) rfl rfl) trivial ?_
  refine S.nil ?_
  refine thenQ_n ?_
  refine AWp.wk (Wk.freeze 0 rfl rfl (.same (lk 0 rfl rfl) (.same (lk 1 rfl rfl) (.cons (lk 2 rfl rfl) rfl (.ptr .nil (by first | rfl | omega)) .nil))) (.refl _)) ?_
  refine AWp.wk (Wk.freeze 1 rfl rfl (.same (lk 0 rfl rfl) (.cons (lk 1 rfl rfl) rfl (.ptr .nil (by first | rfl | omega)) (.same (lk 2 rfl rfl) .nil))) (.refl _)) ?_
  refine AWp.seq ?_
  refine AWp.seq ?_
  refine W.reg [0, 1, 2, 3] rfl ?_
  refine S.sil 5 rfl rfl (fun _ hF => .loadC sz39 ag39 (lk 2 rfl rfl) (ty_TLock.fl a1) rfl) ?_
  refine S.sil 6 rfl rfl (fun _ hF => .loadC sz39 ag39 (lk 2 rfl rfl) (ty_TLock.fl a2) rfl) ?_
  obtain ⟨r3, m3, h⟩ := h.bnd
  refine S.sil 7 rfl rfl (fun _ hF => .callQ ent135 cF (.c (lk 1 rfl rfl) (V.sub.refl _) (.c (lk 0 rfl rfl) (V.sub.refl _) .nil)) (C_lock_Compare m3)) ?_
  refine S.sil 8 rfl rfl (fun _ hF => .lss (lk 0 rfl rfl) cI) ?_
  refine S.nil ?_
  refine thenQ_n ?_
  refine AWp.condM (lk 0 rfl rfl) h (fun c1 h => ?_) (fun c1 h => ?_)
  · skip
    refine AWp.seq ?_
    refine W.reg [0, 1] rfl ?_
    refine S.sil 9 rfl rfl (fun _ hF => .loadC sz39 ag39 (lk 5 rfl rfl) (ty_TLock.fl a2) rfl) ?_
    refine S.effN rfl rfl (.nf (H2 := [.dead, .dead, .cells (E_TLock a2)]) (.storeP sz39 (lk 5 rfl rfl) (lk 0 rfl rfl) rfl (.refl _) rfl .nil (by first | rfl | omega) .nil (ty_TLock.fl a2) (ty_TLock.fl (default : TLock)) rfl) rfl rfl) trivial ?_
    refine S.nil ?_
    refine thenQ_n ?_
    refine AWp.ret ?_
    refine thenQ_r ?_
    refine endF_wk (Wk.freeze 2 rfl rfl (.cons (lk 5 rfl rfl) rfl (.ptr .nil (by first | rfl | omega)) .nil) (.refl _)) ?_
    obtain rfl := h.ret
    exact endF1 rfl (Wk.selS [] .nil rfl (SelE.leaf (lk 0 rfl rfl) rfl (.refl _) (fun m => (lt_cptr (ty_TLock.lt _ _))) .nil) .nil) (.cellC sz39 ag39 (lk 0 rfl rfl) (ty_TLock.fl _) rfl) rfl rfl
  · skip
    refine AWp.skip ?_
    refine thenQ_n ?_
    refine AWp.seq ?_
    refine W.reg [0, 1] rfl ?_
    refine S.sil 10 rfl rfl (fun _ hF => .loadC sz39 ag39 (lk 6 rfl rfl) (ty_TLock.fl a1) rfl) ?_
    refine S.effN rfl rfl (.nf (H2 := [.dead, .dead, .cells (E_TLock a1)]) (.storeP sz39 (lk 5 rfl rfl) (lk 0 rfl rfl) rfl (.refl _) rfl .nil (by first | rfl | omega) .nil (ty_TLock.fl a1) (ty_TLock.fl (default : TLock)) rfl) rfl rfl) trivial ?_
    refine S.nil ?_
    refine thenQ_n ?_
    refine AWp.ret ?_
    refine endF_wk (Wk.freeze 2 rfl rfl (.cons (lk 5 rfl rfl) rfl (.ptr .nil (by first | rfl | omega)) .nil) (.refl _)) ?_
    obtain rfl := h.ret
    exact endF1 rfl (Wk.selS [] .nil rfl (SelE.leaf (lk 0 rfl rfl) rfl (.refl _) (fun m => (lt_cptr (ty_TLock.lt _ _))) .nil) .nil) (.cellC sz39 ag39 (lk 0 rfl rfl) (ty_TLock.fl _) rfl) rfl rfl
theorem C_field_Join {a1 : TField} {a2 : TField} {r : TField × Int} (h : field_Join a1 a2 = some r) : PureC Pg 14 [E_TField a1, E_TField a2] (.tup [E_TField r.1, (V.int .i64) r.2]) := by
  refine PureC.ofF (CallSpec.of_bodyF 64 0 fn14 rfl rfl rfl (Nat.le_of_ble_eq_true rfl) ?_) (ltL_c (ty_TField.lt _ _) (ltL_c (ty_TField.lt _ _) ltL_nil)) (lt_tup (ltL_c (ty_TField.lt _ _) (ltL_c ((TyOk.int .i64).lt _ _) ltL_nil)))
  replace h := Ok.of h
  unfold field_Join at h
  refine AWp.seq ?_
  refine W.reg [0, 1, 2, 3] rfl ?_
  refine S.eff 2 rfl rfl (.nf (v2 := .ptr 0 [] 0) (H2 := [.cells (E_TField a1)]) (.box (lk 0 rfl rfl) rfl) rfl rfl) trivial ?_
  refine S.eff 3 rfl rfl (.nf (v2 := .ptr 1 [] 0) (H2 := [.cells (E_TField a1), .cells (E_TField a2)]) (.box (lk 2 rfl rfl) rfl) rfl rfl) trivial ?_
  refine S.eff 4 rfl rfl (.nf (v2 := .ptr 2 [] 0) (H2 := [.cells (E_TField a1), .cells (E_TField a2), .cells (.st [V.str (default : ByteArray), (V.int .i64) 0, (V.int .i64) 0, E_TCounter (default : TCounter), E_TLock (default : TLock), .nils])]) (.alloc zv42) rfl rfl) trivial ?_
  refine S.sil 5 rfl rfl (fun _ hF => .assign cI) ?_
  refine S.nil ?_
  refine thenQ_n ?_
  refine AWp.wk (Wk.freeze 1 rfl rfl (.same (lk 0 rfl rfl) (.same (lk 1 rfl rfl) (.cons (lk 2 rfl rfl) rfl (.ptr .nil (by first | rfl | omega)) (.same (lk 3 rfl rfl) .nil)))) (.refl _)) ?_
  refine AWp.seq ?_
  refine AWp.seq ?_
  refine W.reg [0, 1, 2, 3, 4, 5, 6, 7, 8, 9, 10, 11, 12, 13, 14, 15, 16, 17, 18] rfl ?_
  refine S.sil 9 rfl rfl (fun _ hF => .fieldAddr lay42 rfl rfl (lk 3 rfl rfl)) ?_
  refine S.qui 10 rfl rfl (fun _ => .loadP sz9 ag9 (lk 0 rfl rfl) rfl (.st rfl flL_nil .nil) (by first | rfl | omega) rfl rfl) ?_
  refine S.sil 11 rfl rfl (fun _ hF => .fieldAddrC lay42 rfl rfl (lk 4 rfl rfl) rfl flL_nil) ?_
  refine S.sil 12 rfl rfl (fun _ hF => .loadC sz9 ag9 (lk 0 rfl rfl) rfl rfl) ?_
  refine S.sil 13 rfl rfl (fun _ hF => .neqS (lk 2 rfl rfl) (lk 0 rfl rfl)) ?_
  refine S.sil 14 rfl rfl (fun _ hF => .move (lk 0 rfl rfl)) ?_
  refine S.gsil 15 5 14 false rfl rfl rfl (lk 0 rfl rfl) (fun hB _ hF => .fieldAddr lay42 rfl rfl (lk 9 rfl rfl)) ?_
  refine S.gqui 16 5 14 false rfl rfl rfl (lk 1 rfl rfl) (fun hB _ => .loadP sz3 ag3 (ifT hB (lk 0 rfl rfl)) rfl (.st rfl (flL_c (show flen _ = 1 from rfl) flL_nil) .nil) (by first | rfl | omega) rfl rfl) ?_
  refine S.gsil 17 5 14 false rfl rfl rfl (lk 2 rfl rfl) (fun hB _ hF => .fieldAddrC lay42 rfl rfl (lk 10 rfl rfl) rfl (flL_c (show flen _ = 1 from rfl) flL_nil)) ?_
  refine S.gsil 18 5 14 false rfl rfl rfl (lk 3 rfl rfl) (fun hB _ hF => .loadC sz3 ag3 (ifT hB (lk 0 rfl rfl)) rfl rfl) ?_
  refine S.gsil 19 5 14 false rfl rfl rfl (lk 4 rfl rfl) (fun hB _ hF => .neq (ifT hB (lk 2 rfl rfl)) (ifT hB (lk 0 rfl rfl))) ?_
  refine S.sil 20 rfl rfl (fun _ hF => .pickOr (lk 5 rfl rfl) cB (fun h => ifT h (lk 0 rfl rfl))) ?_
  refine S.sil 21 rfl rfl (fun _ hF => .move (lk 0 rfl rfl)) ?_
  refine S.gsil 22 12 21 false rfl rfl rfl (lk 0 rfl rfl) (fun hB _ hF => .fieldAddr lay42 rfl rfl (lk 16 rfl rfl)) ?_
  refine S.gqui 23 12 21 false rfl rfl rfl (lk 1 rfl rfl) (fun hB _ => .loadP sz3 ag3 (ifT hB (lk 0 rfl rfl)) rfl (.st rfl (flL_c (show flen _ = 1 from rfl) (flL_c (show flen _ = 1 from rfl) flL_nil)) .nil) (by first | rfl | omega) rfl rfl) ?_
  refine S.gsil 24 12 21 false rfl rfl rfl (lk 2 rfl rfl) (fun hB _ hF => .fieldAddrC lay42 rfl rfl (lk 17 rfl rfl) rfl (flL_c (show flen _ = 1 from rfl) (flL_c (show flen _ = 1 from rfl) flL_nil))) ?_
  refine S.gsil 25 12 21 false rfl rfl rfl (lk 3 rfl rfl) (fun hB _ hF => .loadC sz3 ag3 (ifT hB (lk 0 rfl rfl)) rfl rfl) ?_
  refine S.gsil 26 12 21 false rfl rfl rfl (lk 4 rfl rfl) (fun hB _ hF => .neq (ifT hB (lk 2 rfl rfl)) (ifT hB (lk 0 rfl rfl))) ?_
  obtain ⟨v3, ev3, h⟩ := h.nam
  refine S.sil 27 rfl rfl (fun _ hF => .nv (.pickOr (lk 5 rfl rfl) cB (fun h => ifT h (lk 0 rfl rfl))) (congrArg V.bool ev3.symm)) ?_
  refine S.nil ?_
  refine thenQ_n ?_
  refine AWp.prune (.eq (lk 0 rfl rfl) rfl (.eq (lk 19 rfl rfl) rfl (.eq (lk 20 rfl rfl) rfl (.eq (lk 21 rfl rfl) rfl (.eq (lk 22 rfl rfl) rfl .nil))))) ?_
  refine AWp.condM (lk 0 rfl rfl) h (fun c1 h => ?_) (fun c1 h => ?_)
  · skip
    refine AWp.seq ?_
    refine W.reg [0, 1, 2] rfl ?_
    obtain ⟨v4, ev4, h⟩ := h.nam
    refine S.sil 28 rfl rfl (fun _ hF => .nv (.vs (v := .st [V.str (default : ByteArray), (V.int .i64) 0, (V.int .i64) 0, E_TCounter (default : TCounter), E_TLock (default : TLock), .nils]) (v2 := E_TField (⟨(default : ByteArray), 0, 0, (default : TCounter), (default : TLock), ([] : List THold)⟩ : TField)) (.buildStW lay42 zv42 rfl .nil) rfl (.st (.cons (.refl _) (.cons (.refl _) (.cons (.refl _) (.cons (.refl _) (.cons (.refl _) (.cons (.nils_no _) .nil)))))))) (congrArg E_TField ev4.symm)) ?_
    refine S.effN rfl rfl (.nf (H2 := [.cells (E_TField a1), .dead, .cells (E_TField v4)]) (.storeP sz42 (lk 3 rfl rfl) (lk 0 rfl rfl) rfl (.refl _) rfl .nil (by first | rfl | omega) .nil (ty_TField.fl v4) (fl_st (flL_c (show flen _ = 1 from rfl) (flL_c (show flen _ = 1 from rfl) (flL_c (show flen _ = 1 from rfl) (flL_c (ty_TCounter.fl (default : TCounter)) (flL_c (ty_TLock.fl (default : TLock)) (flL_c (show flen _ = 1 from rfl) flL_nil))))))) rfl) rfl rfl) trivial ?_
    refine S.sil 5 rfl rfl (fun _ hF => .assign cI) ?_
    refine S.nil ?_
    refine thenQ_n ?_
    refine AWp.ret ?_
    refine thenQ_r ?_
    refine endF_wk (Wk.freeze 2 rfl rfl (.same (lk 0 rfl rfl) (.same (lk 0 rfl rfl) (.cons (lk 4 rfl rfl) rfl (.ptr .nil (by first | rfl | omega)) .nil))) (.refl _)) ?_
    obtain rfl := h.ret
    exact endFN rfl (Wk.selS [] .nil rfl (SelE.leaf (lk 2 rfl rfl) rfl (.refl _) (fun m => (lt_cptr (ty_TField.lt _ _))) (SelE.leaf (lk 0 rfl rfl) rfl (.refl _) (fun m => ((TyOk.int .i64).lt _ _)) .nil)) .nil) (.cons (.cellC sz42 ag42 (lk 0 rfl rfl) (ty_TField.fl _) rfl) (.cons (.tmp (lk 1 rfl rfl) rfl) .nil)) rfl rfl rfl
  · skip
    refine AWp.skip ?_
    refine thenQ_n ?_
    refine AWp.seq ?_
    refine W.reg [0, 1, 2, 3, 4, 5, 6, 7, 8, 9, 10] rfl ?_
    refine S.sil 30 rfl rfl (fun _ hF => .fieldAddr lay42 rfl rfl (lk 4 rfl rfl)) ?_
    refine S.qui 31 rfl rfl (fun _ => .loadP sz37 ag37 (lk 0 rfl rfl) rfl (.st rfl (flL_c (show flen _ = 1 from rfl) (flL_c (show flen _ = 1 from rfl) (flL_c (show flen _ = 1 from rfl) flL_nil))) .nil) (by first | rfl | omega) (ty_TCounter.fl a1.Counter) rfl) ?_
    refine S.sil 32 rfl rfl (fun _ hF => .fieldAddrC lay42 rfl rfl (lk 5 rfl rfl) rfl (flL_c (show flen _ = 1 from rfl) (flL_c (show flen _ = 1 from rfl) (flL_c (show flen _ = 1 from rfl) flL_nil)))) ?_
    refine S.sil 33 rfl rfl (fun _ hF => .loadC sz37 ag37 (lk 0 rfl rfl) (ty_TCounter.fl a2.Counter) rfl) ?_
    obtain ⟨r5, m5, h⟩ := h.bnd
    refine S.sil 34 rfl rfl (fun _ hF => .callQ ent57 cF (.c (lk 2 rfl rfl) (V.sub.refl _) (.c (lk 0 rfl rfl) (V.sub.refl _) .nil)) (C_counter_Join m5)) ?_
    refine S.sil 29 rfl rfl (fun _ hF => .move (lk 0 rfl rfl)) ?_
    refine S.sil 35 rfl rfl (fun _ hF => .extract (lk 0 rfl rfl) rfl) ?_
    refine S.sil 36 rfl rfl (fun _ hF => .extract (lk 1 rfl rfl) rfl) ?_
    refine S.eff 6 rfl rfl (.nf (v2 := .ptr 3 [] 0) (H2 := [.cells (E_TField a1), .dead, .cells (.st [V.str (default : ByteArray), (V.int .i64) 0, (V.int .i64) 0, E_TCounter (default : TCounter), E_TLock (default : TLock), .nils]), .cells (E_TCounter (default : TCounter))]) (.alloc zv37) rfl rfl) trivial ?_
    refine S.effN rfl rfl (.nf (H2 := [.cells (E_TField a1), .dead, .cells (.st [V.str (default : ByteArray), (V.int .i64) 0, (V.int .i64) 0, E_TCounter (default : TCounter), E_TLock (default : TLock), .nils]), .cells (E_TCounter r5.1)]) (.storeP sz37 (lk 0 rfl rfl) (lk 2 rfl rfl) rfl (.refl _) rfl .nil (by first | rfl | omega) .nil (ty_TCounter.fl r5.1) (ty_TCounter.fl (default : TCounter)) rfl) rfl rfl) trivial ?_
    refine S.sil 7 rfl rfl (fun _ hF => .assign (lk 1 rfl rfl)) ?_
    refine S.nil ?_
    refine thenQ_n ?_
    refine AWp.wk (Wk.freeze 3 rfl rfl (.same (lk 0 rfl rfl) (.cons (lk 1 rfl rfl) rfl (.ptr .nil (by first | rfl | omega)) (.same (lk 11 rfl rfl) (.same (lk 12 rfl rfl) (.same (lk 13 rfl rfl) (.same (lk 14 rfl rfl) .nil)))))) (.refl _)) ?_
    refine AWp.seq ?_
    refine AWp.seq ?_
    refine W.reg [0, 1] rfl ?_
    refine S.sil 37 rfl rfl (fun _ hF => .move (lk 0 rfl rfl)) ?_
    refine S.sil 38 rfl rfl (fun _ hF => .neq (lk 0 rfl rfl) cI) ?_
    refine S.nil ?_
    refine thenQ_n ?_
    refine AWp.condM (lk 0 rfl rfl) h (fun c2 h => ?_) (fun c2 h => ?_)
    · skip
      refine AWp.seq ?_
      refine W.reg [0, 1, 2, 3] rfl ?_
      obtain ⟨v6, ev6, h⟩ := h.nam
      refine S.sil 39 rfl rfl (fun _ hF => .nv (.vs (v := .st [V.str (default : ByteArray), (V.int .i64) 0, (V.int .i64) 0, E_TCounter (default : TCounter), E_TLock (default : TLock), .nils]) (v2 := E_TField (⟨(default : ByteArray), 0, 0, (default : TCounter), (default : TLock), ([] : List THold)⟩ : TField)) (.buildStW lay42 zv42 rfl .nil) rfl (.st (.cons (.refl _) (.cons (.refl _) (.cons (.refl _) (.cons (.refl _) (.cons (.refl _) (.cons (.nils_no _) .nil)))))))) (congrArg E_TField ev6.symm)) ?_
      refine S.sil 40 rfl rfl (fun _ hF => .move (lk 3 rfl rfl)) ?_
      refine S.effN rfl rfl (.nf (H2 := [.cells (E_TField a1), .dead, .cells (E_TField v6), .dead]) (.storeP sz42 (lk 7 rfl rfl) (lk 1 rfl rfl) rfl (.refl _) rfl .nil (by first | rfl | omega) .nil (ty_TField.fl v6) (fl_st (flL_c (show flen _ = 1 from rfl) (flL_c (show flen _ = 1 from rfl) (flL_c (show flen _ = 1 from rfl) (flL_c (ty_TCounter.fl (default : TCounter)) (flL_c (ty_TLock.fl (default : TLock)) (flL_c (show flen _ = 1 from rfl) flL_nil))))))) rfl) rfl rfl) trivial ?_
      refine S.sil 5 rfl rfl (fun _ hF => .assign (lk 0 rfl rfl)) ?_
      refine S.nil ?_
      refine thenQ_n ?_
      refine AWp.ret ?_
      refine thenQ_r ?_
      refine endF_wk (Wk.freeze 2 rfl rfl (.same (lk 0 rfl rfl) (.same (lk 0 rfl rfl) (.cons (lk 8 rfl rfl) rfl (.ptr .nil (by first | rfl | omega)) .nil))) (.refl _)) ?_
      obtain rfl := h.ret
      exact endFN rfl (Wk.selS [] .nil rfl (SelE.leaf (lk 2 rfl rfl) rfl (.refl _) (fun m => (lt_cptr (ty_TField.lt _ _))) (SelE.leaf (lk 0 rfl rfl) rfl (.refl _) (fun m => ((TyOk.int .i64).lt _ _)) .nil)) .nil) (.cons (.cellC sz42 ag42 (lk 0 rfl rfl) (ty_TField.fl _) rfl) (.cons (.tmp (lk 1 rfl rfl) rfl) .nil)) rfl rfl rfl
    · skip
      refine AWp.skip ?_
      refine thenQ_n ?_
      refine AWp.seq ?_
      refine W.reg [0, 1, 2, 3, 4, 5, 6, 7, 8, 9] rfl ?_
      refine S.sil 42 rfl rfl (fun _ hF => .fieldAddr lay42 rfl rfl (lk 7 rfl rfl)) ?_
      refine S.qui 43 rfl rfl (fun _ => .loadP sz40 ag40 (lk 0 rfl rfl) rfl (.st rfl (flL_c (show flen _ = 1 from rfl) (flL_c (show flen _ = 1 from rfl) (flL_c (show flen _ = 1 from rfl) (flL_c (ty_TCounter.fl a1.Counter) (flL_c (ty_TLock.fl a1.Lock) flL_nil))))) .nil) (by first | rfl | omega) rfl rfl) ?_
      refine S.sil 44 rfl rfl (fun _ hF => .fieldAddrC lay42 rfl rfl (lk 8 rfl rfl) rfl (flL_c (show flen _ = 1 from rfl) (flL_c (show flen _ = 1 from rfl) (flL_c (show flen _ = 1 from rfl) (flL_c (ty_TCounter.fl a2.Counter) (flL_c (ty_TLock.fl a2.Lock) flL_nil)))))) ?_
      refine S.sil 45 rfl rfl (fun _ hF => .loadC sz40 ag40 (lk 0 rfl rfl) rfl rfl) ?_
      obtain ⟨r7, m7, h⟩ := h.bnd
      refine S.sil 46 rfl rfl (fun _ hF => .callQ ent58 cF (.c (lk 2 rfl rfl) (V.sub.refl _) (.c (lk 0 rfl rfl) (V.sub.refl _) .nil)) (C_hold_Join m7)) ?_
      refine S.sil 41 rfl rfl (fun _ hF => .move (lk 0 rfl rfl)) ?_
      refine S.sil 47 rfl rfl (fun _ hF => .extract (lk 0 rfl rfl) rfl) ?_
      refine S.sil 48 rfl rfl (fun _ hF => .extract (lk 1 rfl rfl) rfl) ?_
      refine S.sil 8 rfl rfl (fun _ hF => .assign (lk 1 rfl rfl)) ?_
      refine S.sil 7 rfl rfl (fun _ hF => .assign (lk 1 rfl rfl)) ?_
      refine S.nil ?_
      refine thenQ_n ?_
      refine AWp.prune (.eq (lk 0 rfl rfl) rfl (.eq (lk 1 rfl rfl) rfl (.eq (lk 13 rfl rfl) rfl (.eq (lk 14 rfl rfl) rfl (.eq (lk 15 rfl rfl) rfl (.eq (lk 16 rfl rfl) rfl (.eq (lk 17 rfl rfl) rfl .nil))))))) ?_
      refine AWp.seq ?_
      refine AWp.seq ?_
      refine W.reg [0, 1] rfl ?_
      refine S.sil 49 rfl rfl (fun _ hF => .move (lk 0 rfl rfl)) ?_
      refine S.sil 50 rfl rfl (fun _ hF => .neq (lk 0 rfl rfl) cI) ?_
      refine S.nil ?_
      refine thenQ_n ?_
      refine AWp.condM (lk 0 rfl rfl) h (fun c3 h => ?_) (fun c3 h => ?_)
      · skip
        refine AWp.seq ?_
        refine W.reg [0, 1, 2, 3] rfl ?_
        obtain ⟨v8, ev8, h⟩ := h.nam
        refine S.sil 51 rfl rfl (fun _ hF => .nv (.vs (v := .st [V.str (default : ByteArray), (V.int .i64) 0, (V.int .i64) 0, E_TCounter (default : TCounter), E_TLock (default : TLock), .nils]) (v2 := E_TField (⟨(default : ByteArray), 0, 0, (default : TCounter), (default : TLock), ([] : List THold)⟩ : TField)) (.buildStW lay42 zv42 rfl .nil) rfl (.st (.cons (.refl _) (.cons (.refl _) (.cons (.refl _) (.cons (.refl _) (.cons (.refl _) (.cons (.nils_no _) .nil)))))))) (congrArg E_TField ev8.symm)) ?_
        refine S.sil 52 rfl rfl (fun _ hF => .move (lk 3 rfl rfl)) ?_
        refine S.effN rfl rfl (.nf (H2 := [.cells (E_TField a1), .dead, .cells (E_TField v8), .dead]) (.storeP sz42 (lk 8 rfl rfl) (lk 1 rfl rfl) rfl (.refl _) rfl .nil (by first | rfl | omega) .nil (ty_TField.fl v8) (fl_st (flL_c (show flen _ = 1 from rfl) (flL_c (show flen _ = 1 from rfl) (flL_c (show flen _ = 1 from rfl) (flL_c (ty_TCounter.fl (default : TCounter)) (flL_c (ty_TLock.fl (default : TLock)) (flL_c (show flen _ = 1 from rfl) flL_nil))))))) rfl) rfl rfl) trivial ?_
        refine S.sil 5 rfl rfl (fun _ hF => .assign (lk 0 rfl rfl)) ?_
        refine S.nil ?_
        refine thenQ_n ?_
        refine AWp.ret ?_
        refine thenQ_r ?_
        refine endF_wk (Wk.freeze 2 rfl rfl (.same (lk 0 rfl rfl) (.same (lk 0 rfl rfl) (.cons (lk 9 rfl rfl) rfl (.ptr .nil (by first | rfl | omega)) .nil))) (.refl _)) ?_
        obtain rfl := h.ret
        exact endFN rfl (Wk.selS [] .nil rfl (SelE.leaf (lk 2 rfl rfl) rfl (.refl _) (fun m => (lt_cptr (ty_TField.lt _ _))) (SelE.leaf (lk 0 rfl rfl) rfl (.refl _) (fun m => ((TyOk.int .i64).lt _ _)) .nil)) .nil) (.cons (.cellC sz42 ag42 (lk 0 rfl rfl) (ty_TField.fl _) rfl) (.cons (.tmp (lk 1 rfl rfl) rfl) .nil)) rfl rfl rfl
      · skip
        refine AWp.skip ?_
        refine thenQ_n ?_
        refine AWp.seq ?_
        refine W.regD [0, 1, 2, 3, 4, 5, 6, 7, 8, 9, 10, 11, 12] mixed ?_
        refine S.sil 53 rfl rfl (fun _ hF => .loadC sz37 ag37 (lk 4 rfl rfl) (ty_TCounter.fl r5.1) rfl) ?_
        refine S.sil 54 rfl rfl (fun _ hF => .move (lk 4 rfl rfl)) ?_
        refine S.sil 55 rfl rfl (fun _ hF => .fieldAddr lay42 rfl rfl (lk 10 rfl rfl)) ?_
        refine S.qui 56 rfl rfl (fun _ => .loadP sz39 ag39 (lk 0 rfl rfl) rfl (.st rfl (flL_c (show flen _ = 1 from rfl) (flL_c (show flen _ = 1 from rfl) (flL_c (show flen _ = 1 from rfl) (flL_c (ty_TCounter.fl a1.Counter) flL_nil)))) .nil) (by first | rfl | omega) (ty_TLock.fl a1.Lock) rfl) ?_
        refine S.sil 57 rfl rfl (fun _ hF => .fieldAddrC lay42 rfl rfl (lk 11 rfl rfl) rfl (flL_c (show flen _ = 1 from rfl) (flL_c (show flen _ = 1 from rfl) (flL_c (show flen _ = 1 from rfl) (flL_c (ty_TCounter.fl a2.Counter) flL_nil))))) ?_
        refine S.sil 58 rfl rfl (fun _ hF => .loadC sz39 ag39 (lk 0 rfl rfl) (ty_TLock.fl a2.Lock) rfl) ?_
        obtain ⟨r9, m9, h⟩ := h.bnd
        refine S.sil 59 rfl rfl (fun _ hF => .callQ ent59 cF (.c (lk 2 rfl rfl) (V.sub.refl _) (.c (lk 0 rfl rfl) (V.sub.refl _) .nil)) (C_lock_Join m9)) ?_
        refine S.sil 60 rfl rfl (fun _ hF => .fieldAddr lay42 rfl rfl (lk 15 rfl rfl)) ?_
        obtain ⟨v10, ev10, h⟩ := h.nam
        refine S.effN rfl rfl (.storeP sz37 (lk 0 rfl rfl) (lk 7 rfl rfl) rfl (.refl _) rfl (.st rfl (flL_c (show flen _ = 1 from rfl) (flL_c (show flen _ = 1 from rfl) (flL_c (show flen _ = 1 from rfl) flL_nil))) .nil) (by first | rfl | omega) (.st rfl .nil rfl) (ty_TCounter.fl r5.1) (ty_TCounter.fl a1.Counter) (congrArg (fun z => ([AObj.cells (E_TField z), .dead, .cells (.st [V.str (default : ByteArray), (V.int .i64) 0, (V.int .i64) 0, E_TCounter (default : TCounter), E_TLock (default : TLock), .nils]), .dead] : List AObj)) ev10.symm)) trivial ?_
        refine S.sil 61 rfl rfl (fun _ hF => .fieldAddr lay42 rfl rfl (lk 16 rfl rfl)) ?_
        obtain ⟨v11, ev11, h⟩ := h.nam
        refine S.effN rfl rfl (.storeP sz40 (lk 0 rfl rfl) (lk 7 rfl rfl) rfl (.refl _) rfl (.st rfl (flL_c (show flen _ = 1 from rfl) (flL_c (show flen _ = 1 from rfl) (flL_c (show flen _ = 1 from rfl) (flL_c (ty_TCounter.fl v10.Counter) (flL_c (ty_TLock.fl v10.Lock) flL_nil))))) .nil) (by first | rfl | omega) (.st rfl .nil rfl) rfl rfl (congrArg (fun z => ([AObj.cells (E_TField z), .dead, .cells (.st [V.str (default : ByteArray), (V.int .i64) 0, (V.int .i64) 0, E_TCounter (default : TCounter), E_TLock (default : TLock), .nils]), .dead] : List AObj)) ev11.symm)) trivial ?_
        refine S.sil 62 rfl rfl (fun _ hF => .fieldAddr lay42 rfl rfl (lk 17 rfl rfl)) ?_
        obtain ⟨v12, ev12, h⟩ := h.nam
        refine S.effN rfl rfl (.storeP sz39 (lk 0 rfl rfl) (lk 3 rfl rfl) rfl (.refl _) rfl (.st rfl (flL_c (show flen _ = 1 from rfl) (flL_c (show flen _ = 1 from rfl) (flL_c (show flen _ = 1 from rfl) (flL_c (ty_TCounter.fl v11.Counter) flL_nil)))) .nil) (by first | rfl | omega) (.st rfl .nil rfl) (ty_TLock.fl r9) (ty_TLock.fl v11.Lock) (congrArg (fun z => ([AObj.cells (E_TField z), .dead, .cells (.st [V.str (default : ByteArray), (V.int .i64) 0, (V.int .i64) 0, E_TCounter (default : TCounter), E_TLock (default : TLock), .nils]), .dead] : List AObj)) ev12.symm)) trivial ?_
        refine S.nilD (by kernel_rfl) ?_
        refine thenQ_n ?_
        refine AWp.prune (.eq (lk 15 rfl rfl) rfl (.eq (lk 16 rfl rfl) rfl (.eq (lk 18 rfl rfl) rfl .nil))) ?_
        refine AWp.seq ?_
        refine W.reg [0, 1, 2] rfl ?_
        refine S.qui 63 rfl rfl (fun _ => .loadP sz42 ag42 (lk 2 rfl rfl) rfl .nil (by first | rfl | omega) (ty_TField.fl v12) rfl) ?_
        refine S.effN rfl rfl (.nf (H2 := [.cells (E_TField v12), .dead, .cells (E_TField v12), .dead]) (.storeP sz42 (lk 2 rfl rfl) (lk 0 rfl rfl) rfl (.refl _) rfl .nil (by first | rfl | omega) .nil (ty_TField.fl v12) (fl_st (flL_c (show flen _ = 1 from rfl) (flL_c (show flen _ = 1 from rfl) (flL_c (show flen _ = 1 from rfl) (flL_c (ty_TCounter.fl (default : TCounter)) (flL_c (ty_TLock.fl (default : TLock)) (flL_c (show flen _ = 1 from rfl) flL_nil))))))) rfl) rfl rfl) trivial ?_
        refine S.sil 5 rfl rfl (fun _ hF => .assign cI) ?_
        refine S.nil ?_
        refine thenQ_n ?_
        refine AWp.ret ?_
        refine endF_wk (Wk.freeze 2 rfl rfl (.same (lk 0 rfl rfl) (.same (lk 0 rfl rfl) (.cons (lk 3 rfl rfl) rfl (.ptr .nil (by first | rfl | omega)) .nil))) (.refl _)) ?_
        obtain rfl := h.ret
        exact endFN rfl (Wk.selS [] .nil rfl (SelE.leaf (lk 2 rfl rfl) rfl (.refl _) (fun m => (lt_cptr (ty_TField.lt _ _))) (SelE.leaf (lk 0 rfl rfl) rfl (.refl _) (fun m => ((TyOk.int .i64).lt _ _)) .nil)) .nil) (.cons (.cellC sz42 ag42 (lk 0 rfl rfl) (ty_TField.fl _) rfl) (.cons (.tmp (lk 1 rfl rfl) rfl) .nil)) rfl rfl rfl
theorem C_usufructref07_Name {a1 : ByteArray} {r : Bool} (h : usufructref07_Name a1 = some r) : PureC Pg 69 [V.str a1] (V.bool r) := by
  refine PureC.ofF (CallSpec.of_bodyF 28 0 fn69 rfl rfl rfl (Nat.le_of_ble_eq_true rfl) ?_) (ltL_c (TyOk.str.lt _ _) ltL_nil) (TyOk.bool.lt _ _)
  replace h := Ok.of h
  unfold usufructref07_Name at h
  refine AWp.seq ?_
  refine W.reg [0] rfl ?_
  refine S.sil 2 rfl rfl (fun _ hF => .assign cB) ?_
  refine S.nil ?_
  refine thenQ_n ?_
  refine AWp.seq ?_
  refine AWp.seq ?_
  refine W.reg [0] rfl ?_
  refine S.sil 3 rfl rfl (fun _ hF => .assign cI) ?_
  refine S.nil ?_
  refine thenQ_n ?_
  refine AWp.cutL (fun x4 => ⟨[(2, V.bool false), (0, V.str a1)], []⟩) nc_then h (fun q2 hq2 h => ?_) (fun x4 h => ?_)
  · refine AWp.block ?_
    refine AWp.loopT (fun s3 => ⟨[(3, (V.int .i64) s3), (2, V.bool false), (0, V.str a1)], []⟩) hq2 (Wk.selS [] (by decide) rfl (SelE.leaf (lk 0 rfl rfl) rfl (.refl _) (fun m => ((TyOk.int .i64).lt _ _)) (SelE.leaf (lk 1 rfl rfl) rfl (.refl _) (fun m => (TyOk.bool.lt _ _)) (SelE.leaf (lk 2 rfl rfl) rfl (.refl _) (fun m => (TyOk.str.lt _ _)) .nil))) .nil) (fun _ s3 h2 => ?_)
    rw [usufructref07_Name_L1] at h2
    refine AWp.seq ?_
    refine AWp.seq ?_
    refine W.reg [0, 1, 2, 3] rfl ?_
    refine S.sil 4 rfl rfl (fun _ hF => .move (lk 0 rfl rfl)) ?_
    refine S.sil 5 rfl rfl (fun _ hF => .move (lk 3 rfl rfl)) ?_
    refine S.sil 6 rfl rfl (fun _ hF => .lenS und9 (lk 0 rfl rfl)) ?_
    refine S.sil 7 rfl rfl (fun _ hF => .lss (lk 2 rfl rfl) (lk 0 rfl rfl)) ?_
    refine S.nil ?_
    refine thenQ_n ?_
    refine AWp.condM (lk 0 rfl rfl) h2 (fun c1 h2 => ?_) (fun c1 h2 => ?_)
    · skip
      refine AWp.skip ?_
      refine thenQ_n ?_
      refine AWp.seq ?_
      refine AWp.block ?_
      refine AWp.seq ?_
      refine W.reg [0, 1, 2, 3, 4, 5, 6, 7, 8, 9] rfl ?_
      refine S.sil 10 rfl rfl (fun _ hF => .move (lk 6 rfl rfl)) ?_
      refine S.sil 11 rfl rfl (fun _ hF => .move (lk 5 rfl rfl)) ?_
      obtain ⟨n5, m5, h2⟩ := h2.bnd
      refine S.sil 12 rfl rfl (fun _ hF => .ixStr und9 (lk 1 rfl rfl) (lk 0 rfl rfl) m5) ?_
      refine S.sil 13 rfl rfl (fun _ hF => .lss (lk 0 rfl rfl) cI) ?_
      refine S.sil 14 rfl rfl (fun _ hF => .move (lk 0 rfl rfl)) ?_
      refine S.gsil 15 4 14 false rfl rfl rfl (lk 0 rfl rfl) (fun hB _ hF => .move (lk 11 rfl rfl)) ?_
      refine S.gsil 16 4 14 false rfl rfl rfl (lk 1 rfl rfl) (fun hB _ hF => .move (lk 10 rfl rfl)) ?_
      obtain ⟨n6, m6, h2⟩ := h2.bnd
      refine S.gsil 17 4 14 false rfl rfl rfl (lk 2 rfl rfl) (fun hB _ hF => .ixStr und9 (ifT hB (lk 1 rfl rfl)) (ifT hB (lk 0 rfl rfl)) (gd_get m6 hB)) ?_
      refine S.gsil 18 4 14 false rfl rfl rfl (lk 3 rfl rfl) (fun hB _ hF => .gtr (ifT hB (lk 0 rfl rfl)) cI) ?_
      refine S.sil 19 rfl rfl (fun _ hF => .pickOr (lk 4 rfl rfl) cB (fun h => ifT h (lk 0 rfl rfl))) ?_
      refine S.nil ?_
      refine thenQ_n ?_
      refine AWp.condM (lk 0 rfl rfl) h2 (fun c2 h2 => ?_) (fun c2 h2 => ?_)
      · skip
        refine AWp.seq ?_
        refine W.reg [0] rfl ?_
        refine S.sil 2 rfl rfl (fun _ hF => .assign cB) ?_
        refine S.nil ?_
        refine thenQ_n ?_
        refine AWp.ret ?_
        refine blockQ_r ?_
        refine thenQ_r ?_
        refine thenQ_r ?_
        refine blockQ_r ?_
        refine thenQ_r ?_
        refine thenQ_r ?_
        have h := Ok.inrq h h2.ret
        obtain rfl := h.ret
        exact endF1 rfl (Wk.selS [] .nil rfl (SelE.leaf (lk 0 rfl rfl) rfl (.refl _) (fun m => (TyOk.bool.lt _ _)) .nil) .nil) (.tmp (lk 0 rfl rfl) rfl) rfl rfl
      · skip
        refine AWp.skip ?_
        refine blockQ_n ?_
        refine thenQ_n ?_
        refine W.reg [0, 1, 2] rfl ?_
        refine S.sil 8 rfl rfl (fun _ hF => .move (lk 14 rfl rfl)) ?_
        refine S.sil 9 rfl rfl (fun _ hF => .add (lk 0 rfl rfl) cI) ?_
        refine S.sil 3 rfl rfl (fun _ hF => .assign (lk 0 rfl rfl)) ?_
        refine S.nil ?_
        refine thenQ_n ?_
        exact ⟨_, h2.ret, (Wk.selS [] (by decide) rfl (SelE.leaf (lk 0 rfl rfl) rfl (.refl _) (fun m => ((TyOk.int .i64).lt _ _)) (SelE.leaf (lk 18 rfl rfl) rfl (.refl _) (fun m => (TyOk.bool.lt _ _)) (SelE.leaf (lk 19 rfl rfl) rfl (.refl _) (fun m => (TyOk.str.lt _ _)) .nil))) .nil)⟩
    · skip
      refine AWp.exit ?_
      refine thenQ_x ?_
      refine thenQ_x ?_
      refine blockQ_x ?_
      refine thenQ_n ?_
      exact ⟨_, h2.ret, (Wk.selS [] (by decide) rfl (SelE.leaf (lk 5 rfl rfl) rfl (.refl _) (fun m => (TyOk.bool.lt _ _)) (SelE.leaf (lk 6 rfl rfl) rfl (.refl _) (fun m => (TyOk.str.lt _ _)) .nil)) .nil)⟩
  · skip
    refine thenQ_n ?_
    refine AWp.seq ?_
    refine W.reg [0, 1, 2, 3, 4, 5, 6, 7, 8] rfl ?_
    refine S.sil 20 rfl rfl (fun _ hF => .move (lk 1 rfl rfl)) ?_
    refine S.sil 21 rfl rfl (fun _ hF => .lenS und9 (lk 0 rfl rfl)) ?_
    refine S.sil 22 rfl rfl (fun _ hF => .gtr (lk 0 rfl rfl) cI) ?_
    refine S.sil 23 rfl rfl (fun _ hF => .move (lk 0 rfl rfl)) ?_
    refine S.gsil 24 3 23 true rfl rfl rfl (lk 0 rfl rfl) (fun hB _ hF => .move (lk 5 rfl rfl)) ?_
    refine S.gsil 25 3 23 true rfl rfl rfl (lk 1 rfl rfl) (fun hB _ hF => .lenS und9 (ifT hB (lk 0 rfl rfl))) ?_
    refine S.gsil 26 3 23 true rfl rfl rfl (lk 2 rfl rfl) (fun hB _ hF => .leq (ifT hB (lk 0 rfl rfl)) cI) ?_
    refine S.sil 27 rfl rfl (fun _ hF => .pickAnd (lk 3 rfl rfl) (fun h => ifT h (lk 0 rfl rfl)) cB) ?_
    obtain ⟨v7, ev7, h⟩ := h.nam
    refine S.sil 2 rfl rfl (fun _ hF => .nv (.assign (lk 0 rfl rfl)) (congrArg V.bool ev7.symm)) ?_
    refine S.nil ?_
    refine thenQ_n ?_
    refine AWp.prune (.eq (lk 0 rfl rfl) rfl .nil) ?_
    refine AWp.ret ?_
    obtain rfl := h.ret
    exact endF1 rfl (Wk.selS [] .nil rfl (SelE.leaf (lk 0 rfl rfl) rfl (.refl _) (fun m => (TyOk.bool.lt _ _)) .nil) .nil) (.tmp (lk 0 rfl rfl) rfl) rfl rfl
theorem C_usufructref01_Is {a1 : Int} {r : Bool} (h : usufructref01_Is a1 = some r) : PureC Pg 70 [(V.int .i64) a1] (V.bool r) := by
  refine PureC.ofF (CallSpec.of_bodyF 9 0 fn70 rfl rfl rfl (Nat.le_of_ble_eq_true rfl) ?_) (ltL_c ((TyOk.int .i64).lt _ _) ltL_nil) (TyOk.bool.lt _ _)
  replace h := Ok.of h
  unfold usufructref01_Is at h
  refine AWp.seq ?_
  refine W.reg [0] rfl ?_
  refine S.sil 2 rfl rfl (fun _ hF => .assign cB) ?_
  refine S.nil ?_
  refine thenQ_n ?_
  refine AWp.seq ?_
  refine W.reg [0, 1, 2, 3, 4, 5, 6] rfl ?_
  refine S.sil 3 rfl rfl (fun _ hF => .move (lk 1 rfl rfl)) ?_
  refine S.sil 4 rfl rfl (fun _ hF => .leq (lk 0 rfl rfl) cI) ?_
  refine S.sil 5 rfl rfl (fun _ hF => .move (lk 0 rfl rfl)) ?_
  refine S.gsil 6 2 5 true rfl rfl rfl (lk 0 rfl rfl) (fun hB _ hF => .move (lk 4 rfl rfl)) ?_
  refine S.gsil 7 2 5 true rfl rfl rfl (lk 1 rfl rfl) (fun hB _ hF => .geq (ifT hB (lk 0 rfl rfl)) cI) ?_
  refine S.sil 8 rfl rfl (fun _ hF => .pickAnd (lk 2 rfl rfl) (fun h => ifT h (lk 0 rfl rfl)) cB) ?_
  obtain ⟨v2, ev2, h⟩ := h.nam
  refine S.sil 2 rfl rfl (fun _ hF => .nv (.assign (lk 0 rfl rfl)) (congrArg V.bool ev2.symm)) ?_
  refine S.nil ?_
  refine thenQ_n ?_
  refine AWp.ret ?_
  obtain rfl := h.ret
  exact endF1 rfl (Wk.selS [] .nil rfl (SelE.leaf (lk 0 rfl rfl) rfl (.refl _) (fun m => (TyOk.bool.lt _ _)) .nil) .nil) (.tmp (lk 0 rfl rfl) rfl) rfl rfl
theorem C_usufructref02_Right {a1 : Vector Int 16} {r : Bool} (h : usufructref02_Right a1 = some r) : PureC Pg 199 [E_A16_i64 a1] (V.bool r) := by
  refine PureC.ofF (CallSpec.of_bodyF 18 0 fn199 rfl rfl rfl (Nat.le_of_ble_eq_true rfl) ?_) (ltL_c (ty_A16_i64.lt _ _) ltL_nil) (TyOk.bool.lt _ _)
  replace h := Ok.of h
  unfold usufructref02_Right at h
  refine AWp.seq ?_
  refine W.reg [0, 1] rfl ?_
  refine S.eff 1 rfl rfl (.nf (v2 := .ptr 0 [] 0) (H2 := [.cells (E_A16_i64 a1)]) (.box (lk 0 rfl rfl) rfl) rfl rfl) trivial ?_
  refine S.sil 2 rfl rfl (fun _ hF => .assign cB) ?_
  refine S.nil ?_
  refine thenQ_n ?_
  refine AWp.wk (Wk.freeze 0 rfl rfl (.same (lk 0 rfl rfl) (.cons (lk 1 rfl rfl) rfl (.ptr .nil (by first | rfl | omega)) .nil)) (.refl _)) ?_
  refine AWp.seq ?_
  refine AWp.seq ?_
  refine W.reg [0] rfl ?_
  refine S.sil 3 rfl rfl (fun _ hF => .assign cI) ?_
  refine S.nil ?_
  refine thenQ_n ?_
  refine AWp.cutL (fun x4 => ⟨[(2, V.bool false)], []⟩) nc_then h (fun q2 hq2 h => ?_) (fun x4 h => ?_)
  · refine AWp.block ?_
    refine AWp.loopT (fun s3 => ⟨[(3, (V.int .i64) s3), (2, V.bool false), (1, .cptr (E_A16_i64 a1))], []⟩) hq2 (Wk.selS [] (by decide) rfl (SelE.leaf (lk 0 rfl rfl) rfl (.refl _) (fun m => ((TyOk.int .i64).lt _ _)) (SelE.leaf (lk 1 rfl rfl) rfl (.refl _) (fun m => (TyOk.bool.lt _ _)) (SelE.leaf (lk 2 rfl rfl) rfl (.refl _) (fun m => (lt_cptr (ty_A16_i64.lt _ _))) .nil))) .nil) (fun _ s3 h2 => ?_)
    rw [usufructref02_Right_L1] at h2
    refine AWp.seq ?_
    refine AWp.seq ?_
    refine W.reg [0, 1] rfl ?_
    refine S.sil 4 rfl rfl (fun _ hF => .move (lk 0 rfl rfl)) ?_
    refine S.sil 5 rfl rfl (fun _ hF => .lss (lk 0 rfl rfl) cI) ?_
    refine S.nil ?_
    refine thenQ_n ?_
    refine AWp.condM (lk 0 rfl rfl) h2 (fun c1 h2 => ?_) (fun c1 h2 => ?_)
    · skip
      refine AWp.skip ?_
      refine thenQ_n ?_
      refine AWp.seq ?_
      refine AWp.block ?_
      refine AWp.seq ?_
      refine W.reg [0, 1, 2, 3, 4, 5, 6, 7, 8, 9] rfl ?_
      refine S.sil 8 rfl rfl (fun _ hF => .move (lk 2 rfl rfl)) ?_
      obtain ⟨k5, m5, h2⟩ := h2.bnd
      refine S.sil 9 rfl rfl (fun _ hF => .ixC arr32 (lk 5 rfl rfl) (lk 0 rfl rfl) m5) ?_
      refine S.sil 10 rfl rfl (fun _ hF => .loadC sz3 ag3 (lk 0 rfl rfl) rfl rfl) ?_
      refine S.sil 11 rfl rfl (fun _ hF => .lss (lk 0 rfl rfl) cI) ?_
      refine S.sil 12 rfl rfl (fun _ hF => .move (lk 0 rfl rfl)) ?_
      refine S.gsil 13 4 12 false rfl rfl rfl (lk 0 rfl rfl) (fun hB _ hF => .move (lk 7 rfl rfl)) ?_
      obtain ⟨k6, m6, h2⟩ := h2.bnd
      refine S.gsil 14 4 12 false rfl rfl rfl (lk 1 rfl rfl) (fun hB _ hF => .ixC arr32 (lk 10 rfl rfl) (ifT hB (lk 0 rfl rfl)) (gd_get m6 hB)) ?_
      refine S.gsil 15 4 12 false rfl rfl rfl (lk 2 rfl rfl) (fun hB _ hF => .loadC sz3 ag3 (ifT hB (lk 0 rfl rfl)) rfl rfl) ?_
      refine S.gsil 16 4 12 false rfl rfl rfl (lk 3 rfl rfl) (fun hB _ hF => .gtr (ifT hB (lk 0 rfl rfl)) cI) ?_
      refine S.sil 17 rfl rfl (fun _ hF => .pickOr (lk 4 rfl rfl) cB (fun h => ifT h (lk 0 rfl rfl))) ?_
      refine S.nil ?_
      refine thenQ_n ?_
      refine AWp.condM (lk 0 rfl rfl) h2 (fun c2 h2 => ?_) (fun c2 h2 => ?_)
      · skip
        refine AWp.seq ?_
        refine W.reg [0] rfl ?_
        refine S.sil 2 rfl rfl (fun _ hF => .assign cB) ?_
        refine S.nil ?_
        refine thenQ_n ?_
        refine AWp.ret ?_
        refine blockQ_r ?_
        refine thenQ_r ?_
        refine thenQ_r ?_
        refine blockQ_r ?_
        refine thenQ_r ?_
        refine thenQ_r ?_
        have h := Ok.inrq h h2.ret
        obtain rfl := h.ret
        exact endF1 rfl (Wk.selS [] .nil rfl (SelE.leaf (lk 0 rfl rfl) rfl (.refl _) (fun m => (TyOk.bool.lt _ _)) .nil) .nil) (.tmp (lk 0 rfl rfl) rfl) rfl rfl
      · skip
        refine AWp.skip ?_
        refine blockQ_n ?_
        refine thenQ_n ?_
        refine W.reg [0, 1, 2] rfl ?_
        refine S.sil 6 rfl rfl (fun _ hF => .move (lk 12 rfl rfl)) ?_
        refine S.sil 7 rfl rfl (fun _ hF => .add (lk 0 rfl rfl) cI) ?_
        refine S.sil 3 rfl rfl (fun _ hF => .assign (lk 0 rfl rfl)) ?_
        refine S.nil ?_
        refine thenQ_n ?_
        exact ⟨_, h2.ret, (Wk.selS [] (by decide) rfl (SelE.leaf (lk 0 rfl rfl) rfl (.refl _) (fun m => ((TyOk.int .i64).lt _ _)) (SelE.leaf (lk 16 rfl rfl) rfl (.refl _) (fun m => (TyOk.bool.lt _ _)) (SelE.leaf (lk 17 rfl rfl) rfl (.refl _) (fun m => (lt_cptr (ty_A16_i64.lt _ _))) .nil))) .nil)⟩
    · skip
      refine AWp.exit ?_
      refine thenQ_x ?_
      refine thenQ_x ?_
      refine blockQ_x ?_
      refine thenQ_n ?_
      exact ⟨_, h2.ret, (Wk.selS [] (by decide) rfl (SelE.leaf (lk 3 rfl rfl) rfl (.refl _) (fun m => (TyOk.bool.lt _ _)) .nil) .nil)⟩
  · skip
    refine thenQ_n ?_
    refine AWp.seq ?_
    refine W.reg [0] rfl ?_
    refine S.sil 2 rfl rfl (fun _ hF => .assign cB) ?_
    refine S.nil ?_
    refine thenQ_n ?_
    refine AWp.ret ?_
    obtain rfl := h.ret
    exact endF1 rfl (Wk.selS [] .nil rfl (SelE.leaf (lk 0 rfl rfl) rfl (.refl _) (fun m => (TyOk.bool.lt _ _)) .nil) .nil) (.tmp (lk 0 rfl rfl) rfl) rfl rfl
theorem C_usufructref03_Right {a1 : TRights} {r : Bool} (h : usufructref03_Right a1 = some r) : PureC Pg 138 [E_TRights a1] (V.bool r) := by
  refine PureC.ofF (CallSpec.of_bodyF 35 0 fn138 rfl rfl rfl (Nat.le_of_ble_eq_true rfl) ?_) (ltL_c (ty_TRights.lt _ _) ltL_nil) (TyOk.bool.lt _ _)
  replace h := Ok.of h
  unfold usufructref03_Right at h
  refine AWp.seq ?_
  refine W.reg [0, 1] rfl ?_
  refine S.eff 1 rfl rfl (.nf (v2 := .ptr 0 [] 0) (H2 := [.cells (E_TRights a1)]) (.box (lk 0 rfl rfl) rfl) rfl rfl) trivial ?_
  refine S.sil 2 rfl rfl (fun _ hF => .assign cB) ?_
  refine S.nil ?_
  refine thenQ_n ?_
  refine AWp.wk (Wk.freeze 0 rfl rfl (.same (lk 0 rfl rfl) (.cons (lk 1 rfl rfl) rfl (.ptr .nil (by first | rfl | omega)) .nil)) (.refl _)) ?_
  refine AWp.seq ?_
  refine W.reg [0, 1, 2, 3, 4, 5, 6, 7, 8] rfl ?_
  refine S.sil 5 rfl rfl (fun _ hF => .fieldAddrC lay35 rfl rfl (lk 1 rfl rfl) rfl flL_nil) ?_
  refine S.sil 6 rfl rfl (fun _ hF => .loadC sz32 ag32 (lk 0 rfl rfl) (ty_A16_i64.fl a1.Given) rfl) ?_
  obtain ⟨r2, m2, h⟩ := h.bnd
  refine S.sil 7 rfl rfl (fun _ hF => .callQ ent199 cF (.c (lk 0 rfl rfl) (V.sub.refl _) .nil) (C_usufructref02_Right m2)) ?_
  refine S.sil 8 rfl rfl (fun _ hF => .move (lk 0 rfl rfl)) ?_
  refine S.gsil 9 3 8 true rfl rfl rfl (lk 0 rfl rfl) (fun hB _ hF => .fieldAddrC lay35 rfl rfl (lk 5 rfl rfl) rfl (flL_c (ty_A16_i64.fl a1.Given) flL_nil)) ?_
  refine S.gsil 10 3 8 true rfl rfl rfl (lk 1 rfl rfl) (fun hB _ hF => .loadC sz32 ag32 (ifT hB (lk 0 rfl rfl)) (ty_A16_i64.fl a1.Used) rfl) ?_
  obtain ⟨r3, m3, h⟩ := h.bnd
  refine S.gsil 11 3 8 true rfl rfl rfl (lk 2 rfl rfl) (fun hB _ hF => .callQ ent199 cF (.c (ifT hB (lk 0 rfl rfl)) (V.sub.refl _) .nil) (C_usufructref02_Right (gd_get m3 hB))) ?_
  refine S.sil 12 rfl rfl (fun _ hF => .pickAnd (lk 3 rfl rfl) (fun h => ifT h (lk 0 rfl rfl)) cB) ?_
  refine S.sil 3 rfl rfl (fun _ hF => .assign (lk 0 rfl rfl)) ?_
  refine S.nil ?_
  refine thenQ_n ?_
  refine AWp.seq ?_
  refine AWp.seq ?_
  refine W.reg [0] rfl ?_
  refine S.sil 4 rfl rfl (fun _ hF => .assign cI) ?_
  refine S.nil ?_
  refine thenQ_n ?_
  refine AWp.cutX (fun x6 => ⟨[(3, V.bool x6), (2, V.bool false)], []⟩) nc_then h (fun q4 hq4 => ?_) (fun x6 h => ?_)
  · refine AWp.block ?_
    refine AWp.loopT (fun s5 => ⟨[(4, (V.int .i64) s5.1), (3, V.bool s5.2), (2, V.bool false), (1, .cptr (E_TRights a1))], []⟩) hq4 (Wk.selS [] (by decide) rfl (SelE.leaf (lk 0 rfl rfl) rfl (.refl _) (fun m => ((TyOk.int .i64).lt _ _)) (SelE.leaf (lk 1 rfl rfl) rfl (.refl _) (fun m => (TyOk.bool.lt _ _)) (SelE.leaf (lk 10 rfl rfl) rfl (.refl _) (fun m => (TyOk.bool.lt _ _)) (SelE.leaf (lk 11 rfl rfl) rfl (.refl _) (fun m => (lt_cptr (ty_TRights.lt _ _))) .nil)))) .nil) (fun _ s5 h4 => ?_)
    rw [usufructref03_Right_L1] at h4
    refine AWp.seq ?_
    refine AWp.seq ?_
    refine W.reg [0, 1] rfl ?_
    refine S.sil 13 rfl rfl (fun _ hF => .move (lk 0 rfl rfl)) ?_
    refine S.sil 14 rfl rfl (fun _ hF => .lss (lk 0 rfl rfl) cI) ?_
    refine S.nil ?_
    refine thenQ_n ?_
    refine AWp.condM (lk 0 rfl rfl) h4 (fun c1 h4 => ?_) (fun c1 h4 => ?_)
    · skip
      refine AWp.skip ?_
      refine thenQ_n ?_
      refine AWp.seq ?_
      refine AWp.block ?_
      refine W.reg [0, 1, 2, 3, 4, 5, 6, 7, 8, 9, 10, 11, 12, 13, 14, 15, 16, 17] rfl ?_
      refine S.sil 17 rfl rfl (fun _ hF => .move (lk 3 rfl rfl)) ?_
      refine S.sil 18 rfl rfl (fun _ hF => .move (lk 0 rfl rfl)) ?_
      refine S.gsil 19 1 18 true rfl rfl rfl (lk 0 rfl rfl) (fun hB _ hF => .move (lk 4 rfl rfl)) ?_
      refine S.gsil 20 1 18 true rfl rfl rfl (lk 1 rfl rfl) (fun hB _ hF => .fieldAddrC lay35 rfl rfl (lk 8 rfl rfl) rfl (flL_c (ty_A16_i64.fl a1.Given) (flL_c (ty_A16_i64.fl a1.Used) flL_nil))) ?_
      obtain ⟨k7, m7, h4⟩ := h4.bnd
      refine S.gsil 21 1 18 true rfl rfl rfl (lk 2 rfl rfl) (fun hB _ hF => .ixC arr33 (ifT hB (lk 0 rfl rfl)) (ifT hB (lk 1 rfl rfl)) (gd_get m7 hB)) ?_
      refine S.gsil 22 1 18 true rfl rfl rfl (lk 3 rfl rfl) (fun hB _ hF => .loadC sz32 ag32 (ifT hB (lk 0 rfl rfl)) (ty_A16_i64.fl (a1.Moved.get k7)) rfl) ?_
      obtain ⟨r8, m8, h4⟩ := h4.bnd
      refine S.gsil 23 1 18 true rfl rfl rfl (lk 4 rfl rfl) (fun hB _ hF => .callQ ent199 cF (.c (ifT hB (lk 0 rfl rfl)) (V.sub.refl _) .nil) (C_usufructref02_Right (gd_get m8 hB))) ?_
      refine S.sil 24 rfl rfl (fun _ hF => .pickAnd (lk 5 rfl rfl) (fun h => ifT h (lk 0 rfl rfl)) cB) ?_
      refine S.sil 25 rfl rfl (fun _ hF => .move (lk 0 rfl rfl)) ?_
      refine S.gsil 26 8 25 true rfl rfl rfl (lk 0 rfl rfl) (fun hB _ hF => .move (lk 11 rfl rfl)) ?_
      refine S.gsil 27 8 25 true rfl rfl rfl (lk 1 rfl rfl) (fun hB _ hF => .move (lk 12 rfl rfl)) ?_
      refine S.gsil 28 8 25 true rfl rfl rfl (lk 2 rfl rfl) (fun hB _ hF => .fieldAddrC lay35 rfl rfl (lk 16 rfl rfl) rfl (flL_c (ty_A16_i64.fl a1.Given) (flL_c (ty_A16_i64.fl a1.Used) flL_nil))) ?_
      obtain ⟨k9, m9, h4⟩ := h4.bnd
      refine S.gsil 29 8 25 true rfl rfl rfl (lk 3 rfl rfl) (fun hB _ hF => .ixC arr33 (ifT hB (lk 0 rfl rfl)) (ifT hB (lk 2 rfl rfl)) (gd_get m9 hB)) ?_
      obtain ⟨k10, m10, h4⟩ := h4.bnd
      refine S.gsil 30 8 25 true rfl rfl rfl (lk 4 rfl rfl) (fun hB _ hF => .ixC arr32 (ifT hB (lk 0 rfl rfl)) (ifT hB (lk 2 rfl rfl)) (gd_get m10 hB)) ?_
      refine S.gsil 31 8 25 true rfl rfl rfl (lk 5 rfl rfl) (fun hB _ hF => .loadC sz3 ag3 (ifT hB (lk 0 rfl rfl)) rfl rfl) ?_
      refine S.gsil 32 8 25 true rfl rfl rfl (lk 6 rfl rfl) (fun hB _ hF => .eql (ifT hB (lk 0 rfl rfl)) cI) ?_
      refine S.sil 33 rfl rfl (fun _ hF => .pickAnd (lk 7 rfl rfl) (fun h => ifT h (lk 0 rfl rfl)) cB) ?_
      obtain ⟨v11, ev11, h4⟩ := h4.nam
      refine S.sil 3 rfl rfl (fun _ hF => .nv (.assign (lk 0 rfl rfl)) (congrArg V.bool ev11.symm)) ?_
      refine S.nil ?_
      refine blockQ_n ?_
      refine thenQ_n ?_
      refine AWp.prune (.eq (lk 0 rfl rfl) rfl (.eq (lk 1 rfl rfl) rfl (.eq (lk 9 rfl rfl) rfl (.eq (lk 10 rfl rfl) rfl (.eq (lk 16 rfl rfl) rfl (.eq (lk 17 rfl rfl) rfl (.eq (lk 18 rfl rfl) rfl (.eq (lk 19 rfl rfl) rfl (.eq (lk 20 rfl rfl) rfl (.eq (lk 22 rfl rfl) rfl (.eq (lk 23 rfl rfl) rfl .nil))))))))))) ?_
      refine W.reg [0, 1, 2] rfl ?_
      refine S.sil 15 rfl rfl (fun _ hF => .move (lk 8 rfl rfl)) ?_
      refine S.sil 16 rfl rfl (fun _ hF => .add (lk 0 rfl rfl) cI) ?_
      refine S.sil 4 rfl rfl (fun _ hF => .assign (lk 0 rfl rfl)) ?_
      refine S.nil ?_
      refine thenQ_n ?_
      exact ⟨_, h4.ret, (Wk.selS [] (by decide) rfl (SelE.leaf (lk 0 rfl rfl) rfl (.refl _) (fun m => ((TyOk.int .i64).lt _ _)) (SelE.leaf (lk 3 rfl rfl) rfl (.refl _) (fun m => (TyOk.bool.lt _ _)) (SelE.leaf (lk 12 rfl rfl) rfl (.refl _) (fun m => (TyOk.bool.lt _ _)) (SelE.leaf (lk 13 rfl rfl) rfl (.refl _) (fun m => (lt_cptr (ty_TRights.lt _ _))) .nil)))) .nil)⟩
    · skip
      refine AWp.exit ?_
      refine thenQ_x ?_
      refine thenQ_x ?_
      refine blockQ_x ?_
      refine thenQ_n ?_
      exact ⟨_, h4.ret, (Wk.selS [] (by decide) rfl (SelE.leaf (lk 3 rfl rfl) rfl (.refl _) (fun m => (TyOk.bool.lt _ _)) (SelE.leaf (lk 4 rfl rfl) rfl (.refl _) (fun m => (TyOk.bool.lt _ _)) .nil)) .nil)⟩
  · skip
    refine thenQ_n ?_
    refine AWp.seq ?_
    refine W.reg [0, 1] rfl ?_
    refine S.sil 34 rfl rfl (fun _ hF => .move (lk 0 rfl rfl)) ?_
    refine S.sil 2 rfl rfl (fun _ hF => .assign (lk 0 rfl rfl)) ?_
    refine S.nil ?_
    refine thenQ_n ?_
    refine AWp.ret ?_
    obtain rfl := h.ret
    exact endF1 rfl (Wk.selS [] .nil rfl (SelE.leaf (lk 0 rfl rfl) rfl (.refl _) (fun m => (TyOk.bool.lt _ _)) .nil) .nil) (.tmp (lk 0 rfl rfl) rfl) rfl rfl
theorem C_usufructref01_Add {a1 : Int} {a2 : Int} {r : Int × Int} (h : usufructref01_Add a1 a2 = some r) : PureC Pg 140 [(V.int .i64) a1, (V.int .i64) a2] (.tup [(V.int .i64) r.1, (V.int .i64) r.2]) := by
  refine PureC.ofF (CallSpec.of_bodyF 24 0 fn140 rfl rfl rfl (Nat.le_of_ble_eq_true rfl) ?_) (ltL_c ((TyOk.int .i64).lt _ _) (ltL_c ((TyOk.int .i64).lt _ _) ltL_nil)) (lt_tup (ltL_c ((TyOk.int .i64).lt _ _) (ltL_c ((TyOk.int .i64).lt _ _) ltL_nil)))
  replace h := Ok.of h
  unfold usufructref01_Add at h
  refine AWp.seq ?_
  refine W.reg [0, 1] rfl ?_
  refine S.sil 4 rfl rfl (fun _ hF => .assign cI) ?_
  refine S.sil 5 rfl rfl (fun _ hF => .assign cI) ?_
  refine S.nil ?_
  refine thenQ_n ?_
  refine AWp.seq ?_
  refine AWp.seq ?_
  refine W.reg [0, 1, 2, 3, 4, 5, 6, 7, 8, 9, 10, 11, 12, 13, 14] rfl ?_
  refine S.sil 6 rfl rfl (fun _ hF => .move (lk 2 rfl rfl)) ?_
  obtain ⟨r3, m3, h⟩ := h.bnd
  refine S.sil 7 rfl rfl (fun _ hF => .callQ ent70 cF (.c (lk 0 rfl rfl) (V.sub.refl _) .nil) (C_usufructref01_Is m3)) ?_
  refine S.sil 8 rfl rfl (fun _ hF => .not (lk 0 rfl rfl)) ?_
  refine S.sil 9 rfl rfl (fun _ hF => .move (lk 0 rfl rfl)) ?_
  refine S.gsil 10 3 9 false rfl rfl rfl (lk 0 rfl rfl) (fun hB _ hF => .move (lk 7 rfl rfl)) ?_
  obtain ⟨r4, m4, h⟩ := h.bnd
  refine S.gsil 11 3 9 false rfl rfl rfl (lk 1 rfl rfl) (fun hB _ hF => .callQ ent70 cF (.c (ifT hB (lk 0 rfl rfl)) (V.sub.refl _) .nil) (C_usufructref01_Is (gd_get m4 hB))) ?_
  refine S.gsil 12 3 9 false rfl rfl rfl (lk 2 rfl rfl) (fun hB _ hF => .not (ifT hB (lk 0 rfl rfl))) ?_
  refine S.sil 13 rfl rfl (fun _ hF => .pickOr (lk 3 rfl rfl) cB (fun h => ifT h (lk 0 rfl rfl))) ?_
  refine S.sil 14 rfl rfl (fun _ hF => .move (lk 0 rfl rfl)) ?_
  refine S.gsil 15 8 14 false rfl rfl rfl (lk 0 rfl rfl) (fun hB _ hF => .move (lk 11 rfl rfl)) ?_
  refine S.gsil 16 8 14 false rfl rfl rfl (lk 1 rfl rfl) (fun hB _ hF => .move (lk 13 rfl rfl)) ?_
  refine S.gsil 17 8 14 false rfl rfl rfl (lk 2 rfl rfl) (fun hB _ hF => .add (ifT hB (lk 1 rfl rfl)) (ifT hB (lk 0 rfl rfl))) ?_
  obtain ⟨r5, m5, h⟩ := h.bnd
  refine S.gsil 18 8 14 false rfl rfl rfl (lk 3 rfl rfl) (fun hB _ hF => .callQ ent70 cF (.c (ifT hB (lk 0 rfl rfl)) (V.sub.refl _) .nil) (C_usufructref01_Is (gd_get m5 hB))) ?_
  refine S.gsil 19 8 14 false rfl rfl rfl (lk 4 rfl rfl) (fun hB _ hF => .not (ifT hB (lk 0 rfl rfl))) ?_
  refine S.sil 20 rfl rfl (fun _ hF => .pickOr (lk 5 rfl rfl) cB (fun h => ifT h (lk 0 rfl rfl))) ?_
  refine S.nil ?_
  refine thenQ_n ?_
  refine AWp.prune (.eq (lk 0 rfl rfl) rfl (.eq (lk 15 rfl rfl) rfl (.eq (lk 16 rfl rfl) rfl (.eq (lk 17 rfl rfl) rfl (.eq (lk 18 rfl rfl) rfl .nil))))) ?_
  refine AWp.condM (lk 0 rfl rfl) h (fun c1 h => ?_) (fun c1 h => ?_)
  · skip
    refine AWp.seq ?_
    refine W.reg [0, 1] rfl ?_
    refine S.sil 4 rfl rfl (fun _ hF => .assign cI) ?_
    refine S.sil 5 rfl rfl (fun _ hF => .assign cI) ?_
    refine S.nil ?_
    refine thenQ_n ?_
    refine AWp.ret ?_
    refine thenQ_r ?_
    obtain rfl := h.ret
    exact endFN rfl (Wk.selS [] .nil rfl (SelE.leaf (lk 1 rfl rfl) rfl (.refl _) (fun m => ((TyOk.int .i64).lt _ _)) (SelE.leaf (lk 0 rfl rfl) rfl (.refl _) (fun m => ((TyOk.int .i64).lt _ _)) .nil)) .nil) (.cons (.tmp (lk 0 rfl rfl) rfl) (.cons (.tmp (lk 1 rfl rfl) rfl) .nil)) rfl rfl rfl
  · skip
    refine AWp.skip ?_
    refine thenQ_n ?_
    refine AWp.seq ?_
    refine W.reg [0, 1, 2, 3, 4] rfl ?_
    refine S.sil 21 rfl rfl (fun _ hF => .move (lk 3 rfl rfl)) ?_
    refine S.sil 22 rfl rfl (fun _ hF => .move (lk 5 rfl rfl)) ?_
    refine S.sil 23 rfl rfl (fun _ hF => .add (lk 1 rfl rfl) (lk 0 rfl rfl)) ?_
    refine S.sil 4 rfl rfl (fun _ hF => .assign (lk 0 rfl rfl)) ?_
    refine S.sil 5 rfl rfl (fun _ hF => .assign cI) ?_
    refine S.nil ?_
    refine thenQ_n ?_
    refine AWp.ret ?_
    obtain rfl := h.ret
    exact endFN rfl (Wk.selS [] .nil rfl (SelE.leaf (lk 1 rfl rfl) rfl (.refl _) (fun m => ((TyOk.int .i64).lt _ _)) (SelE.leaf (lk 0 rfl rfl) rfl (.refl _) (fun m => ((TyOk.int .i64).lt _ _)) .nil)) .nil) (.cons (.tmp (lk 0 rfl rfl) rfl) (.cons (.tmp (lk 1 rfl rfl) rfl) .nil)) rfl rfl rfl
theorem C_usufructref01_Sum {a1 : List Int} {r : Int × Int} (h : usufructref01_Sum a1 = some r) : PureC Pg 200 [.sl 1 .no (List.map (V.int .i64) a1)] (.tup [(V.int .i64) r.1, (V.int .i64) r.2]) := by
  refine PureC.ofF (CallSpec.of_bodyF 28 0 fn200 rfl rfl rfl (Nat.le_of_ble_eq_true rfl) ?_) (ltL_c (lt_sl rfl ((TyOk.int .i64).ltm _ _)) ltL_nil) (lt_tup (ltL_c ((TyOk.int .i64).lt _ _) (ltL_c ((TyOk.int .i64).lt _ _) ltL_nil)))
  replace h := Ok.of h
  unfold usufructref01_Sum at h
  refine AWp.seq ?_
  refine W.reg [0, 1] rfl ?_
  refine S.sil 2 rfl rfl (fun _ hF => .assign cI) ?_
  refine S.sil 3 rfl rfl (fun _ hF => .assign cI) ?_
  refine S.nil ?_
  refine thenQ_n ?_
  refine AWp.seq ?_
  refine W.reg [0] rfl ?_
  refine S.sil 4 rfl rfl (fun _ hF => .assign cI) ?_
  refine S.nil ?_
  refine thenQ_n ?_
  refine AWp.seq ?_
  refine AWp.seq ?_
  refine W.reg [0] rfl ?_
  refine S.sil 5 rfl rfl (fun _ hF => .assign cI) ?_
  refine S.nil ?_
  refine thenQ_n ?_
  refine AWp.cutL (fun x4 => ⟨[(4, (V.int .i64) x4), (3, (V.int .i64) 0), (2, (V.int .i64) 0)], []⟩) nc_then h (fun q2 hq2 h => ?_) (fun x4 h => ?_)
  · refine AWp.block ?_
    refine AWp.loopT (fun s3 => ⟨[(5, (V.int .i64) s3.1), (4, (V.int .i64) s3.2), (3, (V.int .i64) 0), (2, (V.int .i64) 0), (0, .sl 1 .no (List.map (V.int .i64) a1))], []⟩) hq2 (Wk.selS [] (by decide) rfl (SelE.leaf (lk 0 rfl rfl) rfl (.refl _) (fun m => ((TyOk.int .i64).lt _ _)) (SelE.leaf (lk 1 rfl rfl) rfl (.refl _) (fun m => ((TyOk.int .i64).lt _ _)) (SelE.leaf (lk 2 rfl rfl) rfl (.refl _) (fun m => ((TyOk.int .i64).lt _ _)) (SelE.leaf (lk 3 rfl rfl) rfl (.refl _) (fun m => ((TyOk.int .i64).lt _ _)) (SelE.leaf (lk 4 rfl rfl) rfl (.refl _) (fun m => (lt_sl rfl ((TyOk.int .i64).ltm _ _))) .nil))))) .nil) (fun _ s3 h2 => ?_)
    rw [usufructref01_Sum_L1] at h2
    refine AWp.seq ?_
    refine AWp.seq ?_
    refine W.reg [0, 1, 2, 3] rfl ?_
    refine S.sil 8 rfl rfl (fun _ hF => .move (lk 0 rfl rfl)) ?_
    refine S.sil 9 rfl rfl (fun _ hF => .move (lk 5 rfl rfl)) ?_
    refine S.sil 10 rfl rfl (fun _ hF => .lenT sli153 (lk 0 rfl rfl) (vsub rfl (.refl _))) ?_
    refine S.sil 11 rfl rfl (fun _ hF => .lss (lk 2 rfl rfl) (lk 0 rfl rfl)) ?_
    refine S.nil ?_
    refine thenQ_n ?_
    refine AWp.condM (lk 0 rfl rfl) h2 (fun c1 h2 => ?_) (fun c1 h2 => ?_)
    · skip
      refine AWp.skip ?_
      refine thenQ_n ?_
      refine AWp.seq ?_
      refine AWp.block ?_
      refine AWp.seq ?_
      refine W.reg [0, 1, 2, 3, 4, 5, 6, 7, 8, 9, 10] rfl ?_
      refine S.sil 15 rfl rfl (fun _ hF => .move (lk 5 rfl rfl)) ?_
      refine S.sil 16 rfl rfl (fun _ hF => .move (lk 9 rfl rfl)) ?_
      refine S.sil 17 rfl rfl (fun _ hF => .move (lk 6 rfl rfl)) ?_
      obtain ⟨j5, m5, h2⟩ := h2.bnd
      refine S.sil 18 rfl rfl (fun _ hF => .ixS sli153 (lk 1 rfl rfl) (lk 0 rfl rfl) m5) ?_
      refine S.sil 19 rfl rfl (fun _ hF => .loadC sz3 ag3 (lk 0 rfl rfl) rfl rfl) ?_
      obtain ⟨r6, m6, h2⟩ := h2.bnd
      refine S.sil 20 rfl rfl (fun _ hF => .callQ ent140 cF (.c (lk 4 rfl rfl) (V.sub.refl _) (.c (lk 0 rfl rfl) (V.sub.refl _) .nil)) (C_usufructref01_Add m6)) ?_
      refine S.sil 14 rfl rfl (fun _ hF => .move (lk 0 rfl rfl)) ?_
      refine S.sil 21 rfl rfl (fun _ hF => .extract (lk 0 rfl rfl) rfl) ?_
      refine S.sil 22 rfl rfl (fun _ hF => .extract (lk 1 rfl rfl) rfl) ?_
      refine S.sil 6 rfl rfl (fun _ hF => .assign (lk 1 rfl rfl)) ?_
      refine S.sil 7 rfl rfl (fun _ hF => .assign (lk 1 rfl rfl)) ?_
      refine S.nil ?_
      refine thenQ_n ?_
      refine AWp.seq ?_
      refine AWp.seq ?_
      refine W.reg [0, 1] rfl ?_
      refine S.sil 23 rfl rfl (fun _ hF => .move (lk 0 rfl rfl)) ?_
      refine S.sil 24 rfl rfl (fun _ hF => .neq (lk 0 rfl rfl) cI) ?_
      refine S.nil ?_
      refine thenQ_n ?_
      refine AWp.condM (lk 0 rfl rfl) h2 (fun c2 h2 => ?_) (fun c2 h2 => ?_)
      · skip
        refine AWp.seq ?_
        refine W.reg [0, 1, 2] rfl ?_
        refine S.sil 25 rfl rfl (fun _ hF => .move (lk 2 rfl rfl)) ?_
        refine S.sil 2 rfl rfl (fun _ hF => .assign cI) ?_
        refine S.sil 3 rfl rfl (fun _ hF => .assign (lk 1 rfl rfl)) ?_
        refine S.nil ?_
        refine thenQ_n ?_
        refine AWp.ret ?_
        refine thenQ_r ?_
        refine blockQ_r ?_
        refine thenQ_r ?_
        refine thenQ_r ?_
        refine blockQ_r ?_
        refine thenQ_r ?_
        refine thenQ_r ?_
        have h := Ok.inrq h h2.ret
        obtain rfl := h.ret
        exact endFN rfl (Wk.selS [] .nil rfl (SelE.leaf (lk 1 rfl rfl) rfl (.refl _) (fun m => ((TyOk.int .i64).lt _ _)) (SelE.leaf (lk 0 rfl rfl) rfl (.refl _) (fun m => ((TyOk.int .i64).lt _ _)) .nil)) .nil) (.cons (.tmp (lk 0 rfl rfl) rfl) (.cons (.tmp (lk 1 rfl rfl) rfl) .nil)) rfl rfl rfl
      · skip
        refine AWp.skip ?_
        refine thenQ_n ?_
        refine W.reg [0, 1] rfl ?_
        refine S.sil 26 rfl rfl (fun _ hF => .move (lk 3 rfl rfl)) ?_
        refine S.sil 4 rfl rfl (fun _ hF => .assign (lk 0 rfl rfl)) ?_
        refine S.nil ?_
        refine blockQ_n ?_
        refine thenQ_n ?_
        refine W.reg [0, 1, 2] rfl ?_
        refine S.sil 12 rfl rfl (fun _ hF => .move (lk 19 rfl rfl)) ?_
        refine S.sil 13 rfl rfl (fun _ hF => .add (lk 0 rfl rfl) cI) ?_
        refine S.sil 5 rfl rfl (fun _ hF => .assign (lk 0 rfl rfl)) ?_
        refine S.nil ?_
        refine thenQ_n ?_
        exact ⟨_, h2.ret, (Wk.selS [] (by decide) rfl (SelE.leaf (lk 0 rfl rfl) rfl (.refl _) (fun m => ((TyOk.int .i64).lt _ _)) (SelE.leaf (lk 3 rfl rfl) rfl (.refl _) (fun m => ((TyOk.int .i64).lt _ _)) (SelE.leaf (lk 24 rfl rfl) rfl (.refl _) (fun m => ((TyOk.int .i64).lt _ _)) (SelE.leaf (lk 25 rfl rfl) rfl (.refl _) (fun m => ((TyOk.int .i64).lt _ _)) (SelE.leaf (lk 26 rfl rfl) rfl (.refl _) (fun m => (lt_sl rfl ((TyOk.int .i64).ltm _ _))) .nil))))) .nil)⟩
    · skip
      refine AWp.exit ?_
      refine thenQ_x ?_
      refine thenQ_x ?_
      refine blockQ_x ?_
      refine thenQ_n ?_
      exact ⟨_, h2.ret, (Wk.selS [] (by decide) rfl (SelE.leaf (lk 5 rfl rfl) rfl (.refl _) (fun m => ((TyOk.int .i64).lt _ _)) (SelE.leaf (lk 6 rfl rfl) rfl (.refl _) (fun m => ((TyOk.int .i64).lt _ _)) (SelE.leaf (lk 7 rfl rfl) rfl (.refl _) (fun m => ((TyOk.int .i64).lt _ _)) .nil))) .nil)⟩
  · skip
    refine thenQ_n ?_
    refine AWp.seq ?_
    refine W.reg [0, 1, 2] rfl ?_
    refine S.sil 27 rfl rfl (fun _ hF => .move (lk 0 rfl rfl)) ?_
    refine S.sil 2 rfl rfl (fun _ hF => .assign (lk 0 rfl rfl)) ?_
    refine S.sil 3 rfl rfl (fun _ hF => .assign cI) ?_
    refine S.nil ?_
    refine thenQ_n ?_
    refine AWp.ret ?_
    obtain rfl := h.ret
    exact endFN rfl (Wk.selS [] .nil rfl (SelE.leaf (lk 1 rfl rfl) rfl (.refl _) (fun m => ((TyOk.int .i64).lt _ _)) (SelE.leaf (lk 0 rfl rfl) rfl (.refl _) (fun m => ((TyOk.int .i64).lt _ _)) .nil)) .nil) (.cons (.tmp (lk 0 rfl rfl) rfl) (.cons (.tmp (lk 1 rfl rfl) rfl) .nil)) rfl rfl rfl
theorem C_usufructref02_Sum {a1 : Vector Int 16} {r : Int × Int} (h : usufructref02_Sum a1 = some r) : PureC Pg 139 [E_A16_i64 a1] (.tup [(V.int .i64) r.1, (V.int .i64) r.2]) := by
  refine PureC.ofF (CallSpec.of_bodyF 8 0 fn139 rfl rfl rfl (Nat.le_of_ble_eq_true rfl) ?_) (ltL_c (ty_A16_i64.lt _ _) ltL_nil) (lt_tup (ltL_c ((TyOk.int .i64).lt _ _) (ltL_c ((TyOk.int .i64).lt _ _) ltL_nil)))
  replace h := Ok.of h
  unfold usufructref02_Sum at h
  refine AWp.seq ?_
  refine W.reg [0, 1, 2] rfl ?_
  refine S.eff 1 rfl rfl (.nf (v2 := .ptr 0 [] 0) (H2 := [.cells (E_A16_i64 a1)]) (.box (lk 0 rfl rfl) rfl) rfl rfl) trivial ?_
  refine S.sil 2 rfl rfl (fun _ hF => .assign cI) ?_
  refine S.sil 3 rfl rfl (fun _ hF => .assign cI) ?_
  refine S.nil ?_
  refine thenQ_n ?_
  refine AWp.wk (Wk.freeze 0 rfl rfl (.same (lk 0 rfl rfl) (.same (lk 1 rfl rfl) (.cons (lk 2 rfl rfl) rfl (.ptr .nil (by first | rfl | omega)) .nil))) (.refl _)) ?_
  refine AWp.seq ?_
  refine W.reg [0, 1, 2, 3, 4, 5] rfl ?_
  refine S.sil 4 rfl rfl (fun _ hF => .sliceArr arr32 (lk 2 rfl rfl) (by simp)) ?_
  obtain ⟨r2, m2, h⟩ := h.bnd
  refine S.sil 5 rfl rfl (fun _ hF => .callQ ent200 cF (.c (lk 0 rfl rfl) (vsub rfl (.forget _ _ _)) .nil) (C_usufructref01_Sum m2)) ?_
  refine S.sil 6 rfl rfl (fun _ hF => .extract (lk 0 rfl rfl) rfl) ?_
  refine S.sil 7 rfl rfl (fun _ hF => .extract (lk 1 rfl rfl) rfl) ?_
  refine S.sil 2 rfl rfl (fun _ hF => .assign (lk 1 rfl rfl)) ?_
  refine S.sil 3 rfl rfl (fun _ hF => .assign (lk 1 rfl rfl)) ?_
  refine S.nil ?_
  refine thenQ_n ?_
  refine AWp.ret ?_
  obtain rfl := h.ret
  exact endFN rfl (Wk.selS [] .nil rfl (SelE.leaf (lk 1 rfl rfl) rfl (.refl _) (fun m => ((TyOk.int .i64).lt _ _)) (SelE.leaf (lk 0 rfl rfl) rfl (.refl _) (fun m => ((TyOk.int .i64).lt _ _)) .nil)) .nil) (.cons (.tmp (lk 0 rfl rfl) rfl) (.cons (.tmp (lk 1 rfl rfl) rfl) .nil)) rfl rfl rfl
theorem C_usufructref04_Right {a1 : TCounter} {r : Bool} (h : usufructref04_Right a1 = some r) : PureC Pg 71 [E_TCounter a1] (V.bool r) := by
  refine PureC.ofF (CallSpec.of_bodyF 137 0 fn71 rfl rfl rfl (Nat.le_of_ble_eq_true rfl) ?_) (ltL_c (ty_TCounter.lt _ _) ltL_nil) (TyOk.bool.lt _ _)
  replace h := Ok.of h
  unfold usufructref04_Right at h
  refine AWp.seq ?_
  refine W.reg [0, 1] rfl ?_
  refine S.eff 1 rfl rfl (.nf (v2 := .ptr 0 [] 0) (H2 := [.cells (E_TCounter a1)]) (.box (lk 0 rfl rfl) rfl) rfl rfl) trivial ?_
  refine S.sil 2 rfl rfl (fun _ hF => .assign cB) ?_
  refine S.nil ?_
  refine thenQ_n ?_
  refine AWp.wk (Wk.freeze 0 rfl rfl (.same (lk 0 rfl rfl) (.cons (lk 1 rfl rfl) rfl (.ptr .nil (by first | rfl | omega)) .nil)) (.refl _)) ?_
  refine AWp.seq ?_
  refine AWp.seq ?_
  refine W.reg [0, 1, 2, 3, 4, 5, 6, 7, 8, 9, 10, 11, 12, 13, 14, 15, 16, 17, 18, 19, 20, 21, 22, 23, 24, 25, 26, 27, 28, 29, 30, 31, 32, 33, 34, 35, 36, 37, 38, 39, 40, 41] rfl ?_
  refine S.sil 15 rfl rfl (fun _ hF => .fieldAddrC lay37 rfl rfl (lk 1 rfl rfl) rfl flL_nil) ?_
  refine S.sil 16 rfl rfl (fun _ hF => .loadC sz3 ag3 (lk 0 rfl rfl) rfl rfl) ?_
  obtain ⟨r2, m2, h⟩ := h.bnd
  refine S.sil 17 rfl rfl (fun _ hF => .callQ ent70 cF (.c (lk 0 rfl rfl) (V.sub.refl _) .nil) (C_usufructref01_Is m2)) ?_
  refine S.sil 18 rfl rfl (fun _ hF => .not (lk 0 rfl rfl)) ?_
  refine S.sil 19 rfl rfl (fun _ hF => .move (lk 0 rfl rfl)) ?_
  refine S.gsil 20 4 19 false rfl rfl rfl (lk 0 rfl rfl) (fun hB _ hF => .fieldAddrC lay37 rfl rfl (lk 6 rfl rfl) rfl (flL_c (show flen _ = 1 from rfl) flL_nil)) ?_
  refine S.gsil 21 4 19 false rfl rfl rfl (lk 1 rfl rfl) (fun hB _ hF => .loadC sz3 ag3 (ifT hB (lk 0 rfl rfl)) rfl rfl) ?_
  obtain ⟨r3, m3, h⟩ := h.bnd
  refine S.gsil 22 4 19 false rfl rfl rfl (lk 2 rfl rfl) (fun hB _ hF => .callQ ent70 cF (.c (ifT hB (lk 0 rfl rfl)) (V.sub.refl _) .nil) (C_usufructref01_Is (gd_get m3 hB))) ?_
  refine S.gsil 23 4 19 false rfl rfl rfl (lk 3 rfl rfl) (fun hB _ hF => .not (ifT hB (lk 0 rfl rfl))) ?_
  refine S.sil 24 rfl rfl (fun _ hF => .pickOr (lk 4 rfl rfl) cB (fun h => ifT h (lk 0 rfl rfl))) ?_
  refine S.sil 25 rfl rfl (fun _ hF => .move (lk 0 rfl rfl)) ?_
  refine S.gsil 26 10 25 false rfl rfl rfl (lk 0 rfl rfl) (fun hB _ hF => .fieldAddrC lay37 rfl rfl (lk 12 rfl rfl) rfl (flL_c (show flen _ = 1 from rfl) (flL_c (show flen _ = 1 from rfl) flL_nil))) ?_
  refine S.gsil 27 10 25 false rfl rfl rfl (lk 1 rfl rfl) (fun hB _ hF => .loadC sz3 ag3 (ifT hB (lk 0 rfl rfl)) rfl rfl) ?_
  obtain ⟨r4, m4, h⟩ := h.bnd
  refine S.gsil 28 10 25 false rfl rfl rfl (lk 2 rfl rfl) (fun hB _ hF => .callQ ent70 cF (.c (ifT hB (lk 0 rfl rfl)) (V.sub.refl _) .nil) (C_usufructref01_Is (gd_get m4 hB))) ?_
  refine S.gsil 29 10 25 false rfl rfl rfl (lk 3 rfl rfl) (fun hB _ hF => .not (ifT hB (lk 0 rfl rfl))) ?_
  refine S.sil 30 rfl rfl (fun _ hF => .pickOr (lk 4 rfl rfl) cB (fun h => ifT h (lk 0 rfl rfl))) ?_
  refine S.sil 31 rfl rfl (fun _ hF => .move (lk 0 rfl rfl)) ?_
  refine S.gsil 32 16 31 false rfl rfl rfl (lk 0 rfl rfl) (fun hB _ hF => .fieldAddrC lay37 rfl rfl (lk 18 rfl rfl) rfl (flL_c (show flen _ = 1 from rfl) flL_nil)) ?_
  refine S.gsil 33 16 31 false rfl rfl rfl (lk 1 rfl rfl) (fun hB _ hF => .loadC sz3 ag3 (ifT hB (lk 0 rfl rfl)) rfl rfl) ?_
  refine S.gsil 34 16 31 false rfl rfl rfl (lk 2 rfl rfl) (fun hB _ hF => .fieldAddrC lay37 rfl rfl (lk 20 rfl rfl) rfl flL_nil) ?_
  refine S.gsil 35 16 31 false rfl rfl rfl (lk 3 rfl rfl) (fun hB _ hF => .loadC sz3 ag3 (ifT hB (lk 0 rfl rfl)) rfl rfl) ?_
  refine S.gsil 36 16 31 false rfl rfl rfl (lk 4 rfl rfl) (fun hB _ hF => .gtr (ifT hB (lk 2 rfl rfl)) (ifT hB (lk 0 rfl rfl))) ?_
  refine S.sil 37 rfl rfl (fun _ hF => .pickOr (lk 5 rfl rfl) cB (fun h => ifT h (lk 0 rfl rfl))) ?_
  refine S.sil 38 rfl rfl (fun _ hF => .move (lk 0 rfl rfl)) ?_
  refine S.gsil 39 23 38 false rfl rfl rfl (lk 0 rfl rfl) (fun hB _ hF => .fieldAddrC lay37 rfl rfl (lk 25 rfl rfl) rfl flL_nil) ?_
  refine S.gsil 40 23 38 false rfl rfl rfl (lk 1 rfl rfl) (fun hB _ hF => .loadC sz3 ag3 (ifT hB (lk 0 rfl rfl)) rfl rfl) ?_
  refine S.gsil 41 23 38 false rfl rfl rfl (lk 2 rfl rfl) (fun hB _ hF => .fieldAddrC lay37 rfl rfl (lk 27 rfl rfl) rfl (flL_c (show flen _ = 1 from rfl) (flL_c (show flen _ = 1 from rfl) flL_nil))) ?_
  refine S.gsil 42 23 38 false rfl rfl rfl (lk 3 rfl rfl) (fun hB _ hF => .loadC sz3 ag3 (ifT hB (lk 0 rfl rfl)) rfl rfl) ?_
  refine S.gsil 43 23 38 false rfl rfl rfl (lk 4 rfl rfl) (fun hB _ hF => .gtr (ifT hB (lk 2 rfl rfl)) (ifT hB (lk 0 rfl rfl))) ?_
  obtain ⟨v5, ev5, h⟩ := h.nam
  refine S.sil 44 rfl rfl (fun _ hF => .nv (.pickOr (lk 5 rfl rfl) cB (fun h => ifT h (lk 0 rfl rfl))) (congrArg V.bool ev5.symm)) ?_
  refine S.sil 45 rfl rfl (fun _ hF => .move (lk 0 rfl rfl)) ?_
  refine S.gsil 46 30 45 false rfl rfl rfl (lk 0 rfl rfl) (fun hB _ hF => .fieldAddrC lay37 rfl rfl (lk 32 rfl rfl) rfl (flL_c (show flen _ = 1 from rfl) (flL_c (show flen _ = 1 from rfl) (flL_c (show flen _ = 1 from rfl) flL_nil)))) ?_
  refine S.gsil 47 30 45 false rfl rfl rfl (lk 1 rfl rfl) (fun hB _ hF => .loadC sz35 ag35 (ifT hB (lk 0 rfl rfl)) (ty_TRights.fl a1.Down) rfl) ?_
  obtain ⟨r6, m6, h⟩ := h.bnd
  refine S.gsil 48 30 45 false rfl rfl rfl (lk 2 rfl rfl) (fun hB _ hF => .callQ ent138 cF (.c (ifT hB (lk 0 rfl rfl)) (V.sub.refl _) .nil) (C_usufructref03_Right (gd_get m6 hB))) ?_
  refine S.gsil 49 30 45 false rfl rfl rfl (lk 3 rfl rfl) (fun hB _ hF => .not (ifT hB (lk 0 rfl rfl))) ?_
  refine S.sil 50 rfl rfl (fun _ hF => .pickOr (lk 4 rfl rfl) cB (fun h => ifT h (lk 0 rfl rfl))) ?_
  refine S.sil 51 rfl rfl (fun _ hF => .move (lk 0 rfl rfl)) ?_
  refine S.gsil 52 36 51 false rfl rfl rfl (lk 0 rfl rfl) (fun hB _ hF => .fieldAddrC lay37 rfl rfl (lk 38 rfl rfl) rfl (flL_c (show flen _ = 1 from rfl) (flL_c (show flen _ = 1 from rfl) (flL_c (show flen _ = 1 from rfl) (flL_c (ty_TRights.fl a1.Down) flL_nil))))) ?_
  refine S.gsil 53 36 51 false rfl rfl rfl (lk 1 rfl rfl) (fun hB _ hF => .loadC sz35 ag35 (ifT hB (lk 0 rfl rfl)) (ty_TRights.fl a1.Up) rfl) ?_
  obtain ⟨r7, m7, h⟩ := h.bnd
  refine S.gsil 54 36 51 false rfl rfl rfl (lk 2 rfl rfl) (fun hB _ hF => .callQ ent138 cF (.c (ifT hB (lk 0 rfl rfl)) (V.sub.refl _) .nil) (C_usufructref03_Right (gd_get m7 hB))) ?_
  refine S.gsil 55 36 51 false rfl rfl rfl (lk 3 rfl rfl) (fun hB _ hF => .not (ifT hB (lk 0 rfl rfl))) ?_
  refine S.sil 56 rfl rfl (fun _ hF => .pickOr (lk 4 rfl rfl) cB (fun h => ifT h (lk 0 rfl rfl))) ?_
  refine S.nil ?_
  refine thenQ_n ?_
  refine AWp.prune (.eq (lk 0 rfl rfl) rfl (.eq (lk 42 rfl rfl) rfl (.eq (lk 43 rfl rfl) rfl .nil))) ?_
  refine AWp.condM (lk 0 rfl rfl) h (fun c1 h => ?_) (fun c1 h => ?_)
  · skip
    refine AWp.seq ?_
    refine W.reg [0] rfl ?_
    refine S.sil 2 rfl rfl (fun _ hF => .assign cB) ?_
    refine S.nil ?_
    refine thenQ_n ?_
    refine AWp.ret ?_
    refine thenQ_r ?_
    obtain rfl := h.ret
    exact endF1 rfl (Wk.selS [] .nil rfl (SelE.leaf (lk 0 rfl rfl) rfl (.refl _) (fun m => (TyOk.bool.lt _ _)) .nil) .nil) (.tmp (lk 0 rfl rfl) rfl) rfl rfl
  · skip
    refine AWp.skip ?_
    refine thenQ_n ?_
    refine AWp.seq ?_
    refine W.reg [0, 1, 2, 3, 4, 5, 6, 7, 8] rfl ?_
    refine S.sil 58 rfl rfl (fun _ hF => .fieldAddrC lay37 rfl rfl (lk 2 rfl rfl) rfl (flL_c (show flen _ = 1 from rfl) (flL_c (show flen _ = 1 from rfl) (flL_c (show flen _ = 1 from rfl) flL_nil)))) ?_
    refine S.sil 59 rfl rfl (fun _ hF => .fieldAddrC lay35 rfl rfl (lk 0 rfl rfl) rfl flL_nil) ?_
    refine S.sil 60 rfl rfl (fun _ hF => .loadC sz32 ag32 (lk 0 rfl rfl) (ty_A16_i64.fl a1.Down.Given) rfl) ?_
    obtain ⟨r8, m8, h⟩ := h.bnd
    refine S.sil 61 rfl rfl (fun _ hF => .callQ ent139 cF (.c (lk 0 rfl rfl) (V.sub.refl _) .nil) (C_usufructref02_Sum m8)) ?_
    refine S.sil 57 rfl rfl (fun _ hF => .move (lk 0 rfl rfl)) ?_
    refine S.sil 62 rfl rfl (fun _ hF => .extract (lk 0 rfl rfl) rfl) ?_
    refine S.sil 63 rfl rfl (fun _ hF => .extract (lk 1 rfl rfl) rfl) ?_
    refine S.sil 3 rfl rfl (fun _ hF => .assign (lk 1 rfl rfl)) ?_
    refine S.sil 4 rfl rfl (fun _ hF => .assign (lk 1 rfl rfl)) ?_
    refine S.nil ?_
    refine thenQ_n ?_
    refine AWp.seq ?_
    refine W.reg [0, 1, 2, 3, 4, 5, 6, 7, 8] rfl ?_
    refine S.sil 65 rfl rfl (fun _ hF => .fieldAddrC lay37 rfl rfl (lk 11 rfl rfl) rfl (flL_c (show flen _ = 1 from rfl) (flL_c (show flen _ = 1 from rfl) (flL_c (show flen _ = 1 from rfl) (flL_c (ty_TRights.fl a1.Down) flL_nil))))) ?_
    refine S.sil 66 rfl rfl (fun _ hF => .fieldAddrC lay35 rfl rfl (lk 0 rfl rfl) rfl (flL_c (ty_A16_i64.fl a1.Up.Given) flL_nil)) ?_
    refine S.sil 67 rfl rfl (fun _ hF => .loadC sz32 ag32 (lk 0 rfl rfl) (ty_A16_i64.fl a1.Up.Used) rfl) ?_
    obtain ⟨r9, m9, h⟩ := h.bnd
    refine S.sil 68 rfl rfl (fun _ hF => .callQ ent139 cF (.c (lk 0 rfl rfl) (V.sub.refl _) .nil) (C_usufructref02_Sum m9)) ?_
    refine S.sil 64 rfl rfl (fun _ hF => .move (lk 0 rfl rfl)) ?_
    refine S.sil 69 rfl rfl (fun _ hF => .extract (lk 0 rfl rfl) rfl) ?_
    refine S.sil 70 rfl rfl (fun _ hF => .extract (lk 1 rfl rfl) rfl) ?_
    refine S.sil 5 rfl rfl (fun _ hF => .assign (lk 1 rfl rfl)) ?_
    refine S.sil 6 rfl rfl (fun _ hF => .assign (lk 1 rfl rfl)) ?_
    refine S.nil ?_
    refine thenQ_n ?_
    refine AWp.prune (.eq (lk 0 rfl rfl) rfl (.eq (lk 1 rfl rfl) rfl (.eq (lk 9 rfl rfl) rfl (.eq (lk 10 rfl rfl) rfl (.eq (lk 19 rfl rfl) rfl (.eq (lk 20 rfl rfl) rfl .nil)))))) ?_
    refine AWp.seq ?_
    refine W.reg [0, 1, 2, 3, 4, 5, 6, 7, 8, 9, 10, 11] rfl ?_
    refine S.sil 72 rfl rfl (fun _ hF => .fieldAddrC lay37 rfl rfl (lk 5 rfl rfl) rfl flL_nil) ?_
    refine S.sil 73 rfl rfl (fun _ hF => .loadC sz3 ag3 (lk 0 rfl rfl) rfl rfl) ?_
    refine S.sil 74 rfl rfl (fun _ hF => .fieldAddrC lay37 rfl rfl (lk 7 rfl rfl) rfl (flL_c (show flen _ = 1 from rfl) flL_nil)) ?_
    refine S.sil 75 rfl rfl (fun _ hF => .loadC sz3 ag3 (lk 0 rfl rfl) rfl rfl) ?_
    refine S.sil 76 rfl rfl (fun _ hF => .sub (lk 2 rfl rfl) (lk 0 rfl rfl)) ?_
    refine S.sil 77 rfl rfl (fun _ hF => .move (lk 6 rfl rfl)) ?_
    obtain ⟨r10, m10, h⟩ := h.bnd
    refine S.sil 78 rfl rfl (fun _ hF => .callQ ent140 cF (.c (lk 1 rfl rfl) (V.sub.refl _) (.c (lk 0 rfl rfl) (V.sub.refl _) .nil)) (C_usufructref01_Add m10)) ?_
    refine S.sil 71 rfl rfl (fun _ hF => .move (lk 0 rfl rfl)) ?_
    refine S.sil 79 rfl rfl (fun _ hF => .extract (lk 0 rfl rfl) rfl) ?_
    refine S.sil 80 rfl rfl (fun _ hF => .extract (lk 1 rfl rfl) rfl) ?_
    refine S.sil 7 rfl rfl (fun _ hF => .assign (lk 1 rfl rfl)) ?_
    refine S.sil 8 rfl rfl (fun _ hF => .assign (lk 1 rfl rfl)) ?_
    refine S.nil ?_
    refine thenQ_n ?_
    refine AWp.prune (.eq (lk 0 rfl rfl) rfl (.eq (lk 1 rfl rfl) rfl (.eq (lk 12 rfl rfl) rfl (.eq (lk 14 rfl rfl) rfl (.eq (lk 15 rfl rfl) rfl (.eq (lk 16 rfl rfl) rfl (.eq (lk 17 rfl rfl) rfl .nil))))))) ?_
    refine AWp.seq ?_
    refine W.reg [0, 1, 2, 3, 4, 5, 6, 7, 8] rfl ?_
    refine S.sil 82 rfl rfl (fun _ hF => .fieldAddrC lay37 rfl rfl (lk 6 rfl rfl) rfl (flL_c (show flen _ = 1 from rfl) (flL_c (show flen _ = 1 from rfl) (flL_c (show flen _ = 1 from rfl) (flL_c (ty_TRights.fl a1.Down) flL_nil))))) ?_
    refine S.sil 83 rfl rfl (fun _ hF => .fieldAddrC lay35 rfl rfl (lk 0 rfl rfl) rfl flL_nil) ?_
    refine S.sil 84 rfl rfl (fun _ hF => .loadC sz32 ag32 (lk 0 rfl rfl) (ty_A16_i64.fl a1.Up.Given) rfl) ?_
    obtain ⟨r11, m11, h⟩ := h.bnd
    refine S.sil 85 rfl rfl (fun _ hF => .callQ ent139 cF (.c (lk 0 rfl rfl) (V.sub.refl _) .nil) (C_usufructref02_Sum m11)) ?_
    refine S.sil 81 rfl rfl (fun _ hF => .move (lk 0 rfl rfl)) ?_
    refine S.sil 86 rfl rfl (fun _ hF => .extract (lk 0 rfl rfl) rfl) ?_
    refine S.sil 87 rfl rfl (fun _ hF => .extract (lk 1 rfl rfl) rfl) ?_
    refine S.sil 9 rfl rfl (fun _ hF => .assign (lk 1 rfl rfl)) ?_
    refine S.sil 10 rfl rfl (fun _ hF => .assign (lk 1 rfl rfl)) ?_
    refine S.nil ?_
    refine thenQ_n ?_
    refine AWp.seq ?_
    refine W.reg [0, 1, 2, 3, 4, 5, 6, 7, 8] rfl ?_
    refine S.sil 89 rfl rfl (fun _ hF => .fieldAddrC lay37 rfl rfl (lk 15 rfl rfl) rfl (flL_c (show flen _ = 1 from rfl) (flL_c (show flen _ = 1 from rfl) (flL_c (show flen _ = 1 from rfl) flL_nil)))) ?_
    refine S.sil 90 rfl rfl (fun _ hF => .fieldAddrC lay35 rfl rfl (lk 0 rfl rfl) rfl (flL_c (ty_A16_i64.fl a1.Down.Given) flL_nil)) ?_
    refine S.sil 91 rfl rfl (fun _ hF => .loadC sz32 ag32 (lk 0 rfl rfl) (ty_A16_i64.fl a1.Down.Used) rfl) ?_
    obtain ⟨r12, m12, h⟩ := h.bnd
    refine S.sil 92 rfl rfl (fun _ hF => .callQ ent139 cF (.c (lk 0 rfl rfl) (V.sub.refl _) .nil) (C_usufructref02_Sum m12)) ?_
    refine S.sil 88 rfl rfl (fun _ hF => .move (lk 0 rfl rfl)) ?_
    refine S.sil 93 rfl rfl (fun _ hF => .extract (lk 0 rfl rfl) rfl) ?_
    refine S.sil 94 rfl rfl (fun _ hF => .extract (lk 1 rfl rfl) rfl) ?_
    refine S.sil 11 rfl rfl (fun _ hF => .assign (lk 1 rfl rfl)) ?_
    refine S.sil 12 rfl rfl (fun _ hF => .assign (lk 1 rfl rfl)) ?_
    refine S.nil ?_
    refine thenQ_n ?_
    refine AWp.prune (.eq (lk 0 rfl rfl) rfl (.eq (lk 1 rfl rfl) rfl (.eq (lk 9 rfl rfl) rfl (.eq (lk 10 rfl rfl) rfl (.eq (lk 18 rfl rfl) rfl (.eq (lk 19 rfl rfl) rfl (.eq (lk 20 rfl rfl) rfl (.eq (lk 21 rfl rfl) rfl (.eq (lk 22 rfl rfl) rfl (.eq (lk 23 rfl rfl) rfl (.eq (lk 24 rfl rfl) rfl .nil))))))))))) ?_
    refine AWp.seq ?_
    refine W.reg [0, 1, 2, 3, 4, 5, 6, 7, 8, 9, 10, 11] rfl ?_
    refine S.sil 96 rfl rfl (fun _ hF => .fieldAddrC lay37 rfl rfl (lk 10 rfl rfl) rfl (flL_c (show flen _ = 1 from rfl) (flL_c (show flen _ = 1 from rfl) flL_nil))) ?_
    refine S.sil 97 rfl rfl (fun _ hF => .loadC sz3 ag3 (lk 0 rfl rfl) rfl rfl) ?_
    refine S.sil 98 rfl rfl (fun _ hF => .fieldAddrC lay37 rfl rfl (lk 12 rfl rfl) rfl flL_nil) ?_
    refine S.sil 99 rfl rfl (fun _ hF => .loadC sz3 ag3 (lk 0 rfl rfl) rfl rfl) ?_
    refine S.sil 100 rfl rfl (fun _ hF => .sub (lk 2 rfl rfl) (lk 0 rfl rfl)) ?_
    refine S.sil 101 rfl rfl (fun _ hF => .move (lk 6 rfl rfl)) ?_
    obtain ⟨r13, m13, h⟩ := h.bnd
    refine S.sil 102 rfl rfl (fun _ hF => .callQ ent140 cF (.c (lk 1 rfl rfl) (V.sub.refl _) (.c (lk 0 rfl rfl) (V.sub.refl _) .nil)) (C_usufructref01_Add m13)) ?_
    refine S.sil 95 rfl rfl (fun _ hF => .move (lk 0 rfl rfl)) ?_
    refine S.sil 103 rfl rfl (fun _ hF => .extract (lk 0 rfl rfl) rfl) ?_
    refine S.sil 104 rfl rfl (fun _ hF => .extract (lk 1 rfl rfl) rfl) ?_
    refine S.sil 13 rfl rfl (fun _ hF => .assign (lk 1 rfl rfl)) ?_
    refine S.sil 14 rfl rfl (fun _ hF => .assign (lk 1 rfl rfl)) ?_
    refine S.nil ?_
    refine thenQ_n ?_
    refine AWp.prune (.eq (lk 0 rfl rfl) rfl (.eq (lk 1 rfl rfl) rfl (.eq (lk 12 rfl rfl) rfl (.eq (lk 14 rfl rfl) rfl (.eq (lk 15 rfl rfl) rfl (.eq (lk 16 rfl rfl) rfl (.eq (lk 17 rfl rfl) rfl (.eq (lk 18 rfl rfl) rfl (.eq (lk 19 rfl rfl) rfl (.eq (lk 20 rfl rfl) rfl (.eq (lk 21 rfl rfl) rfl .nil))))))))))) ?_
    refine AWp.seq ?_
    refine W.reg [0, 1, 2, 3, 4, 5, 6, 7, 8, 9, 10, 11, 12, 13, 14, 15, 16, 17, 18, 19, 20, 21, 22, 23, 24, 25, 26, 27, 28, 29, 30, 31, 32] rfl ?_
    refine S.sil 105 rfl rfl (fun _ hF => .move (lk 8 rfl rfl)) ?_
    refine S.sil 106 rfl rfl (fun _ hF => .eql (lk 0 rfl rfl) cI) ?_
    refine S.sil 107 rfl rfl (fun _ hF => .move (lk 0 rfl rfl)) ?_
    refine S.gsil 108 2 107 true rfl rfl rfl (lk 0 rfl rfl) (fun hB _ hF => .move (lk 10 rfl rfl)) ?_
    refine S.gsil 109 2 107 true rfl rfl rfl (lk 1 rfl rfl) (fun hB _ hF => .eql (ifT hB (lk 0 rfl rfl)) cI) ?_
    refine S.sil 110 rfl rfl (fun _ hF => .pickAnd (lk 2 rfl rfl) (fun h => ifT h (lk 0 rfl rfl)) cB) ?_
    refine S.sil 111 rfl rfl (fun _ hF => .move (lk 0 rfl rfl)) ?_
    refine S.gsil 112 6 111 true rfl rfl rfl (lk 0 rfl rfl) (fun hB _ hF => .move (lk 12 rfl rfl)) ?_
    refine S.gsil 113 6 111 true rfl rfl rfl (lk 1 rfl rfl) (fun hB _ hF => .eql (ifT hB (lk 0 rfl rfl)) cI) ?_
    refine S.sil 114 rfl rfl (fun _ hF => .pickAnd (lk 2 rfl rfl) (fun h => ifT h (lk 0 rfl rfl)) cB) ?_
    refine S.sil 115 rfl rfl (fun _ hF => .move (lk 0 rfl rfl)) ?_
    refine S.gsil 116 10 115 true rfl rfl rfl (lk 0 rfl rfl) (fun hB _ hF => .move (lk 14 rfl rfl)) ?_
    refine S.gsil 117 10 115 true rfl rfl rfl (lk 1 rfl rfl) (fun hB _ hF => .eql (ifT hB (lk 0 rfl rfl)) cI) ?_
    obtain ⟨v14, ev14, h⟩ := h.nam
    refine S.sil 118 rfl rfl (fun _ hF => .nv (.pickAnd (lk 2 rfl rfl) (fun h => ifT h (lk 0 rfl rfl)) cB) (congrArg V.bool ev14.symm)) ?_
    refine S.sil 119 rfl rfl (fun _ hF => .move (lk 0 rfl rfl)) ?_
    refine S.gsil 120 14 119 true rfl rfl rfl (lk 0 rfl rfl) (fun hB _ hF => .move (lk 17 rfl rfl)) ?_
    refine S.gsil 121 14 119 true rfl rfl rfl (lk 1 rfl rfl) (fun hB _ hF => .eql (ifT hB (lk 0 rfl rfl)) cI) ?_
    refine S.sil 122 rfl rfl (fun _ hF => .pickAnd (lk 2 rfl rfl) (fun h => ifT h (lk 0 rfl rfl)) cB) ?_
    refine S.sil 123 rfl rfl (fun _ hF => .move (lk 0 rfl rfl)) ?_
    refine S.gsil 124 18 123 true rfl rfl rfl (lk 0 rfl rfl) (fun hB _ hF => .move (lk 19 rfl rfl)) ?_
    refine S.gsil 125 18 123 true rfl rfl rfl (lk 1 rfl rfl) (fun hB _ hF => .eql (ifT hB (lk 0 rfl rfl)) cI) ?_
    refine S.sil 126 rfl rfl (fun _ hF => .pickAnd (lk 2 rfl rfl) (fun h => ifT h (lk 0 rfl rfl)) cB) ?_
    refine S.sil 127 rfl rfl (fun _ hF => .move (lk 0 rfl rfl)) ?_
    refine S.gsil 128 22 127 true rfl rfl rfl (lk 0 rfl rfl) (fun hB _ hF => .move (lk 32 rfl rfl)) ?_
    refine S.gsil 129 22 127 true rfl rfl rfl (lk 1 rfl rfl) (fun hB _ hF => .move (lk 30 rfl rfl)) ?_
    refine S.gsil 130 22 127 true rfl rfl rfl (lk 2 rfl rfl) (fun hB _ hF => .eql (ifT hB (lk 1 rfl rfl)) (ifT hB (lk 0 rfl rfl))) ?_
    obtain ⟨v15, ev15, h⟩ := h.nam
    refine S.sil 131 rfl rfl (fun _ hF => .nv (.pickAnd (lk 3 rfl rfl) (fun h => ifT h (lk 0 rfl rfl)) cB) (congrArg V.bool ev15.symm)) ?_
    refine S.sil 132 rfl rfl (fun _ hF => .move (lk 0 rfl rfl)) ?_
    refine S.gsil 133 27 132 true rfl rfl rfl (lk 0 rfl rfl) (fun hB _ hF => .move (lk 32 rfl rfl)) ?_
    refine S.gsil 134 27 132 true rfl rfl rfl (lk 1 rfl rfl) (fun hB _ hF => .move (lk 30 rfl rfl)) ?_
    refine S.gsil 135 27 132 true rfl rfl rfl (lk 2 rfl rfl) (fun hB _ hF => .eql (ifT hB (lk 1 rfl rfl)) (ifT hB (lk 0 rfl rfl))) ?_
    refine S.sil 136 rfl rfl (fun _ hF => .pickAnd (lk 3 rfl rfl) (fun h => ifT h (lk 0 rfl rfl)) cB) ?_
    obtain ⟨v16, ev16, h⟩ := h.nam
    refine S.sil 2 rfl rfl (fun _ hF => .nv (.assign (lk 0 rfl rfl)) (congrArg V.bool ev16.symm)) ?_
    refine S.nil ?_
    refine thenQ_n ?_
    refine AWp.prune (.eq (lk 0 rfl rfl) rfl .nil) ?_
    refine AWp.ret ?_
    obtain rfl := h.ret
    exact endF1 rfl (Wk.selS [] .nil rfl (SelE.leaf (lk 0 rfl rfl) rfl (.refl _) (fun m => (TyOk.bool.lt _ _)) .nil) .nil) (.tmp (lk 0 rfl rfl) rfl) rfl rfl
theorem C_usufructref06_counts {a1 : Int} {r : Bool} (h : usufructref06_counts a1 = some r) : PureC Pg 201 [(V.int .i64) a1] (V.bool r) := by
  refine PureC.ofF (CallSpec.of_bodyF 9 0 fn201 rfl rfl rfl (Nat.le_of_ble_eq_true rfl) ?_) (ltL_c ((TyOk.int .i64).lt _ _) ltL_nil) (TyOk.bool.lt _ _)
  replace h := Ok.of h
  unfold usufructref06_counts at h
  refine AWp.seq ?_
  refine W.reg [0] rfl ?_
  refine S.sil 2 rfl rfl (fun _ hF => .assign cB) ?_
  refine S.nil ?_
  refine thenQ_n ?_
  refine AWp.seq ?_
  refine W.reg [0, 1, 2, 3, 4, 5, 6] rfl ?_
  refine S.sil 3 rfl rfl (fun _ hF => .move (lk 1 rfl rfl)) ?_
  refine S.sil 4 rfl rfl (fun _ hF => .geq (lk 0 rfl rfl) cI) ?_
  refine S.sil 5 rfl rfl (fun _ hF => .move (lk 0 rfl rfl)) ?_
  refine S.gsil 6 2 5 true rfl rfl rfl (lk 0 rfl rfl) (fun hB _ hF => .move (lk 4 rfl rfl)) ?_
  obtain ⟨r2, m2, h⟩ := h.bnd
  refine S.gsil 7 2 5 true rfl rfl rfl (lk 1 rfl rfl) (fun hB _ hF => .callQ ent70 cF (.c (ifT hB (lk 0 rfl rfl)) (V.sub.refl _) .nil) (C_usufructref01_Is (gd_get m2 hB))) ?_
  refine S.sil 8 rfl rfl (fun _ hF => .pickAnd (lk 2 rfl rfl) (fun h => ifT h (lk 0 rfl rfl)) cB) ?_
  obtain ⟨v3, ev3, h⟩ := h.nam
  refine S.sil 2 rfl rfl (fun _ hF => .nv (.assign (lk 0 rfl rfl)) (congrArg V.bool ev3.symm)) ?_
  refine S.nil ?_
  refine thenQ_n ?_
  refine AWp.ret ?_
  obtain rfl := h.ret
  exact endF1 rfl (Wk.selS [] .nil rfl (SelE.leaf (lk 0 rfl rfl) rfl (.refl _) (fun m => (TyOk.bool.lt _ _)) .nil) .nil) (.tmp (lk 0 rfl rfl) rfl) rfl rfl
theorem C_usufructref06_Right {a1 : THold} {r : Bool} (h : usufructref06_Right a1 = some r) : PureC Pg 141 [E_THold a1] (V.bool r) := by
  refine PureC.ofF (CallSpec.of_bodyF 41 0 fn141 rfl rfl rfl (Nat.le_of_ble_eq_true rfl) ?_) (ltL_c (ty_THold.lt _ _) ltL_nil) (TyOk.bool.lt _ _)
  replace h := Ok.of h
  unfold usufructref06_Right at h
  refine AWp.seq ?_
  refine W.reg [0, 1] rfl ?_
  refine S.eff 1 rfl rfl (.nf (v2 := .ptr 0 [] 0) (H2 := [.cells (E_THold a1)]) (.box (lk 0 rfl rfl) rfl) rfl rfl) trivial ?_
  refine S.sil 2 rfl rfl (fun _ hF => .assign cB) ?_
  refine S.nil ?_
  refine thenQ_n ?_
  refine AWp.wk (Wk.freeze 0 rfl rfl (.same (lk 0 rfl rfl) (.cons (lk 1 rfl rfl) rfl (.ptr .nil (by first | rfl | omega)) .nil)) (.refl _)) ?_
  refine AWp.seq ?_
  refine W.reg [0, 1, 2, 3, 4, 5, 6, 7, 8, 9, 10, 11, 12, 13, 14, 15, 16, 17, 18, 19, 20, 21, 22, 23, 24, 25, 26, 27, 28, 29, 30, 31, 32, 33, 34, 35, 36, 37, 38] rfl ?_
  refine S.sil 3 rfl rfl (fun _ hF => .fieldAddrC lay101 rfl rfl (lk 1 rfl rfl) rfl flL_nil) ?_
  refine S.sil 4 rfl rfl (fun _ hF => .loadC sz3 ag3 (lk 0 rfl rfl) rfl rfl) ?_
  refine S.sil 5 rfl rfl (fun _ hF => .geq (lk 0 rfl rfl) cI) ?_
  refine S.sil 6 rfl rfl (fun _ hF => .move (lk 0 rfl rfl)) ?_
  refine S.gsil 7 3 6 true rfl rfl rfl (lk 0 rfl rfl) (fun hB _ hF => .fieldAddrC lay101 rfl rfl (lk 5 rfl rfl) rfl flL_nil) ?_
  refine S.gsil 8 3 6 true rfl rfl rfl (lk 1 rfl rfl) (fun hB _ hF => .loadC sz3 ag3 (ifT hB (lk 0 rfl rfl)) rfl rfl) ?_
  refine S.gsil 9 3 6 true rfl rfl rfl (lk 2 rfl rfl) (fun hB _ hF => .leq (ifT hB (lk 0 rfl rfl)) cI) ?_
  refine S.sil 10 rfl rfl (fun _ hF => .pickAnd (lk 3 rfl rfl) (fun h => ifT h (lk 0 rfl rfl)) cB) ?_
  refine S.sil 11 rfl rfl (fun _ hF => .move (lk 0 rfl rfl)) ?_
  refine S.gsil 12 8 11 true rfl rfl rfl (lk 0 rfl rfl) (fun hB _ hF => .fieldAddrC lay101 rfl rfl (lk 10 rfl rfl) rfl (flL_c (show flen _ = 1 from rfl) flL_nil)) ?_
  refine S.gsil 13 8 11 true rfl rfl rfl (lk 1 rfl rfl) (fun hB _ hF => .loadC sz3 ag3 (ifT hB (lk 0 rfl rfl)) rfl rfl) ?_
  refine S.gsil 14 8 11 true rfl rfl rfl (lk 2 rfl rfl) (fun hB _ hF => .gtr (ifT hB (lk 0 rfl rfl)) cI) ?_
  obtain ⟨v2, ev2, h⟩ := h.nam
  refine S.sil 15 rfl rfl (fun _ hF => .nv (.pickAnd (lk 3 rfl rfl) (fun h => ifT h (lk 0 rfl rfl)) cB) (congrArg V.bool ev2.symm)) ?_
  refine S.sil 16 rfl rfl (fun _ hF => .move (lk 0 rfl rfl)) ?_
  refine S.gsil 17 13 16 true rfl rfl rfl (lk 0 rfl rfl) (fun hB _ hF => .fieldAddrC lay101 rfl rfl (lk 15 rfl rfl) rfl (flL_c (show flen _ = 1 from rfl) flL_nil)) ?_
  refine S.gsil 18 13 16 true rfl rfl rfl (lk 1 rfl rfl) (fun hB _ hF => .loadC sz3 ag3 (ifT hB (lk 0 rfl rfl)) rfl rfl) ?_
  obtain ⟨r3, m3, h⟩ := h.bnd
  refine S.gsil 19 13 16 true rfl rfl rfl (lk 2 rfl rfl) (fun hB _ hF => .callQ ent201 cF (.c (ifT hB (lk 0 rfl rfl)) (V.sub.refl _) .nil) (C_usufructref06_counts (gd_get m3 hB))) ?_
  refine S.sil 20 rfl rfl (fun _ hF => .pickAnd (lk 3 rfl rfl) (fun h => ifT h (lk 0 rfl rfl)) cB) ?_
  refine S.sil 21 rfl rfl (fun _ hF => .move (lk 0 rfl rfl)) ?_
  refine S.gsil 22 18 21 true rfl rfl rfl (lk 0 rfl rfl) (fun hB _ hF => .fieldAddrC lay101 rfl rfl (lk 20 rfl rfl) rfl (flL_c (show flen _ = 1 from rfl) (flL_c (show flen _ = 1 from rfl) flL_nil))) ?_
  refine S.gsil 23 18 21 true rfl rfl rfl (lk 1 rfl rfl) (fun hB _ hF => .loadC sz3 ag3 (ifT hB (lk 0 rfl rfl)) rfl rfl) ?_
  obtain ⟨r4, m4, h⟩ := h.bnd
  refine S.gsil 24 18 21 true rfl rfl rfl (lk 2 rfl rfl) (fun hB _ hF => .callQ ent201 cF (.c (ifT hB (lk 0 rfl rfl)) (V.sub.refl _) .nil) (C_usufructref06_counts (gd_get m4 hB))) ?_
  refine S.sil 25 rfl rfl (fun _ hF => .pickAnd (lk 3 rfl rfl) (fun h => ifT h (lk 0 rfl rfl)) cB) ?_
  refine S.sil 26 rfl rfl (fun _ hF => .move (lk 0 rfl rfl)) ?_
  refine S.gsil 27 23 26 true rfl rfl rfl (lk 0 rfl rfl) (fun hB _ hF => .fieldAddrC lay101 rfl rfl (lk 25 rfl rfl) rfl (flL_c (show flen _ = 1 from rfl) (flL_c (show flen _ = 1 from rfl) (flL_c (show flen _ = 1 from rfl) flL_nil)))) ?_
  refine S.gsil 28 23 26 true rfl rfl rfl (lk 1 rfl rfl) (fun hB _ hF => .loadC sz3 ag3 (ifT hB (lk 0 rfl rfl)) rfl rfl) ?_
  obtain ⟨r5, m5, h⟩ := h.bnd
  refine S.gsil 29 23 26 true rfl rfl rfl (lk 2 rfl rfl) (fun hB _ hF => .callQ ent201 cF (.c (ifT hB (lk 0 rfl rfl)) (V.sub.refl _) .nil) (C_usufructref06_counts (gd_get m5 hB))) ?_
  refine S.sil 30 rfl rfl (fun _ hF => .pickAnd (lk 3 rfl rfl) (fun h => ifT h (lk 0 rfl rfl)) cB) ?_
  refine S.sil 31 rfl rfl (fun _ hF => .move (lk 0 rfl rfl)) ?_
  refine S.gsil 32 28 31 true rfl rfl rfl (lk 0 rfl rfl) (fun hB _ hF => .fieldAddrC lay101 rfl rfl (lk 30 rfl rfl) rfl (flL_c (show flen _ = 1 from rfl) (flL_c (show flen _ = 1 from rfl) (flL_c (show flen _ = 1 from rfl) (flL_c (show flen _ = 1 from rfl) flL_nil))))) ?_
  refine S.gsil 33 28 31 true rfl rfl rfl (lk 1 rfl rfl) (fun hB _ hF => .loadC sz3 ag3 (ifT hB (lk 0 rfl rfl)) rfl rfl) ?_
  refine S.gsil 34 28 31 true rfl rfl rfl (lk 2 rfl rfl) (fun hB _ hF => .geq (ifT hB (lk 0 rfl rfl)) cI) ?_
  refine S.sil 35 rfl rfl (fun _ hF => .pickAnd (lk 3 rfl rfl) (fun h => ifT h (lk 0 rfl rfl)) cB) ?_
  refine S.sil 36 rfl rfl (fun _ hF => .move (lk 0 rfl rfl)) ?_
  refine S.gsil 37 33 36 true rfl rfl rfl (lk 0 rfl rfl) (fun hB _ hF => .fieldAddrC lay101 rfl rfl (lk 35 rfl rfl) rfl (flL_c (show flen _ = 1 from rfl) (flL_c (show flen _ = 1 from rfl) (flL_c (show flen _ = 1 from rfl) (flL_c (show flen _ = 1 from rfl) flL_nil))))) ?_
  refine S.gsil 38 33 36 true rfl rfl rfl (lk 1 rfl rfl) (fun hB _ hF => .loadC sz3 ag3 (ifT hB (lk 0 rfl rfl)) rfl rfl) ?_
  refine S.gsil 39 33 36 true rfl rfl rfl (lk 2 rfl rfl) (fun hB _ hF => .leq (ifT hB (lk 0 rfl rfl)) cI) ?_
  obtain ⟨v6, ev6, h⟩ := h.nam
  refine S.sil 40 rfl rfl (fun _ hF => .nv (.pickAnd (lk 3 rfl rfl) (fun h => ifT h (lk 0 rfl rfl)) cB) (congrArg V.bool ev6.symm)) ?_
  refine S.sil 2 rfl rfl (fun _ hF => .assign (lk 0 rfl rfl)) ?_
  refine S.nil ?_
  refine thenQ_n ?_
  refine AWp.prune (.eq (lk 0 rfl rfl) rfl .nil) ?_
  refine AWp.ret ?_
  obtain rfl := h.ret
  exact endF1 rfl (Wk.selS [] .nil rfl (SelE.leaf (lk 0 rfl rfl) rfl (.refl _) (fun m => (TyOk.bool.lt _ _)) .nil) .nil) (.tmp (lk 0 rfl rfl) rfl) rfl rfl
theorem C_usufructref06_Ahead {a1 : THold} {a2 : THold} {r : Bool} (h : usufructref06_Ahead a1 a2 = some r) : PureC Pg 142 [E_THold a1, E_THold a2] (V.bool r) := by
  refine PureC.ofF (CallSpec.of_bodyF 24 0 fn142 rfl rfl rfl (Nat.le_of_ble_eq_true rfl) ?_) (ltL_c (ty_THold.lt _ _) (ltL_c (ty_THold.lt _ _) ltL_nil)) (TyOk.bool.lt _ _)
  replace h := Ok.of h
  unfold usufructref06_Ahead at h
  refine AWp.seq ?_
  refine W.reg [0, 1, 2] rfl ?_
  refine S.eff 2 rfl rfl (.nf (v2 := .ptr 0 [] 0) (H2 := [.cells (E_THold a1)]) (.box (lk 0 rfl rfl) rfl) rfl rfl) trivial ?_
  refine S.eff 3 rfl rfl (.nf (v2 := .ptr 1 [] 0) (H2 := [.cells (E_THold a1), .cells (E_THold a2)]) (.box (lk 2 rfl rfl) rfl) rfl rfl) trivial ?_
  refine S.sil 4 rfl rfl (fun _ hF => .assign cB) ?_
  refine S.nil ?_
  refine thenQ_n ?_
  refine AWp.wk (Wk.freeze 0 rfl rfl (.same (lk 0 rfl rfl) (.same (lk 1 rfl rfl) (.cons (lk 2 rfl rfl) rfl (.ptr .nil (by first | rfl | omega)) .nil))) (.refl _)) ?_
  refine AWp.wk (Wk.freeze 1 rfl rfl (.same (lk 0 rfl rfl) (.cons (lk 1 rfl rfl) rfl (.ptr .nil (by first | rfl | omega)) (.same (lk 2 rfl rfl) .nil))) (.refl _)) ?_
  refine AWp.seq ?_
  refine W.reg [0, 1, 2, 3, 4, 5, 6, 7, 8, 9, 10, 11, 12, 13, 14, 15, 16, 17, 18, 19] rfl ?_
  refine S.sil 5 rfl rfl (fun _ hF => .fieldAddrC lay101 rfl rfl (lk 2 rfl rfl) rfl flL_nil) ?_
  refine S.sil 6 rfl rfl (fun _ hF => .loadC sz3 ag3 (lk 0 rfl rfl) rfl rfl) ?_
  refine S.sil 7 rfl rfl (fun _ hF => .fieldAddrC lay101 rfl rfl (lk 3 rfl rfl) rfl flL_nil) ?_
  refine S.sil 8 rfl rfl (fun _ hF => .loadC sz3 ag3 (lk 0 rfl rfl) rfl rfl) ?_
  refine S.sil 9 rfl rfl (fun _ hF => .lss (lk 2 rfl rfl) (lk 0 rfl rfl)) ?_
  refine S.sil 10 rfl rfl (fun _ hF => .move (lk 0 rfl rfl)) ?_
  refine S.gsil 11 5 10 false rfl rfl rfl (lk 0 rfl rfl) (fun hB _ hF => .fieldAddrC lay101 rfl rfl (lk 8 rfl rfl) rfl flL_nil) ?_
  refine S.gsil 12 5 10 false rfl rfl rfl (lk 1 rfl rfl) (fun hB _ hF => .loadC sz3 ag3 (ifT hB (lk 0 rfl rfl)) rfl rfl) ?_
  refine S.gsil 13 5 10 false rfl rfl rfl (lk 2 rfl rfl) (fun hB _ hF => .fieldAddrC lay101 rfl rfl (lk 9 rfl rfl) rfl flL_nil) ?_
  refine S.gsil 14 5 10 false rfl rfl rfl (lk 3 rfl rfl) (fun hB _ hF => .loadC sz3 ag3 (ifT hB (lk 0 rfl rfl)) rfl rfl) ?_
  refine S.gsil 15 5 10 false rfl rfl rfl (lk 4 rfl rfl) (fun hB _ hF => .eql (ifT hB (lk 2 rfl rfl)) (ifT hB (lk 0 rfl rfl))) ?_
  refine S.gsil 16 5 10 false rfl rfl rfl (lk 5 rfl rfl) (fun hB _ hF => .move (ifT hB (lk 0 rfl rfl))) ?_
  refine S.gsil2 17 11 16 true rfl rfl rfl (lk 0 rfl rfl) (fun hB _ hF => .fieldAddrC lay101 rfl rfl (lk 14 rfl rfl) rfl (flL_c (show flen _ = 1 from rfl) flL_nil)) ?_
  refine S.gsil2 18 11 16 true rfl rfl rfl (lk 1 rfl rfl) (fun hB _ hF => .loadC sz3 ag3 (ifT hB (lk 0 rfl rfl)) rfl rfl) ?_
  refine S.gsil2 19 11 16 true rfl rfl rfl (lk 2 rfl rfl) (fun hB _ hF => .fieldAddrC lay101 rfl rfl (lk 15 rfl rfl) rfl (flL_c (show flen _ = 1 from rfl) flL_nil)) ?_
  refine S.gsil2 20 11 16 true rfl rfl rfl (lk 3 rfl rfl) (fun hB _ hF => .loadC sz3 ag3 (ifT hB (lk 0 rfl rfl)) rfl rfl) ?_
  refine S.gsil2 21 11 16 true rfl rfl rfl (lk 4 rfl rfl) (fun hB _ hF => .lss (ifT hB (lk 2 rfl rfl)) (ifT hB (lk 0 rfl rfl))) ?_
  refine S.gsil 22 5 10 false rfl rfl rfl (lk 11 rfl rfl) (fun hB _ hF => .pickAnd (ifT hB (lk 5 rfl rfl)) (fun h => ifT ⟨hB, h⟩ (lk 0 rfl rfl)) cB) ?_
  obtain ⟨v3, ev3, h⟩ := h.nam
  refine S.sil 23 rfl rfl (fun _ hF => .nv (.pickOr (lk 12 rfl rfl) cB (fun h => ifT h (lk 0 rfl rfl))) (congrArg V.bool ev3.symm)) ?_
  refine S.sil 4 rfl rfl (fun _ hF => .assign (lk 0 rfl rfl)) ?_
  refine S.nil ?_
  refine thenQ_n ?_
  refine AWp.prune (.eq (lk 0 rfl rfl) rfl .nil) ?_
  refine AWp.ret ?_
  obtain rfl := h.ret
  exact endF1 rfl (Wk.selS [] .nil rfl (SelE.leaf (lk 0 rfl rfl) rfl (.refl _) (fun m => (TyOk.bool.lt _ _)) .nil) .nil) (.tmp (lk 0 rfl rfl) rfl) rfl rfl
theorem C_usufructref06_Rights {a1 : List THold} {r : Bool} (h : usufructref06_Rights a1 = some r) : PureC Pg 72 [.sl 5 .no (List.map E_THold a1)] (V.bool r) := by
  refine PureC.ofF (CallSpec.of_bodyF 36 0 fn72 rfl rfl rfl (Nat.le_of_ble_eq_true rfl) ?_) (ltL_c (lt_sl rfl (ty_THold.ltm _ _)) ltL_nil) (TyOk.bool.lt _ _)
  replace h := Ok.of h
  unfold usufructref06_Rights at h
  refine AWp.seq ?_
  refine W.reg [0] rfl ?_
  refine S.sil 2 rfl rfl (fun _ hF => .assign cB) ?_
  refine S.nil ?_
  refine thenQ_n ?_
  refine AWp.seq ?_
  refine AWp.seq ?_
  refine W.reg [0] rfl ?_
  refine S.sil 3 rfl rfl (fun _ hF => .assign cI) ?_
  refine S.nil ?_
  refine thenQ_n ?_
  refine AWp.cutL (fun x4 => ⟨[(2, V.bool false), (0, .sl 5 .no (List.map E_THold a1))], []⟩) nc_then h (fun q2 hq2 h => ?_) (fun x4 h => ?_)
  · refine AWp.block ?_
    refine AWp.loopT (fun s3 => ⟨[(3, (V.int .i64) s3), (2, V.bool false), (0, .sl 5 .no (List.map E_THold a1))], []⟩) hq2 (Wk.selS [] (by decide) rfl (SelE.leaf (lk 0 rfl rfl) rfl (.refl _) (fun m => ((TyOk.int .i64).lt _ _)) (SelE.leaf (lk 1 rfl rfl) rfl (.refl _) (fun m => (TyOk.bool.lt _ _)) (SelE.leaf (lk 2 rfl rfl) rfl (.refl _) (fun m => (lt_sl rfl (ty_THold.ltm _ _))) .nil))) .nil) (fun _ s3 h2 => ?_)
    rw [usufructref06_Rights_L1] at h2
    refine AWp.seq ?_
    refine AWp.seq ?_
    refine W.reg [0, 1, 2, 3] rfl ?_
    refine S.sil 4 rfl rfl (fun _ hF => .move (lk 0 rfl rfl)) ?_
    refine S.sil 5 rfl rfl (fun _ hF => .move (lk 3 rfl rfl)) ?_
    refine S.sil 6 rfl rfl (fun _ hF => .lenT sli40 (lk 0 rfl rfl) (vsub rfl (.refl _))) ?_
    refine S.sil 7 rfl rfl (fun _ hF => .lss (lk 2 rfl rfl) (lk 0 rfl rfl)) ?_
    refine S.nil ?_
    refine thenQ_n ?_
    refine AWp.condM (lk 0 rfl rfl) h2 (fun c1 h2 => ?_) (fun c1 h2 => ?_)
    · skip
      refine AWp.skip ?_
      refine thenQ_n ?_
      refine AWp.seq ?_
      refine AWp.block ?_
      refine AWp.seq ?_
      refine W.regD [0, 1, 2, 3, 4, 5, 6, 7, 8, 9, 10, 11, 12, 13, 14, 15, 16, 17, 18, 19, 20, 21, 22] mixed ?_
      refine S.sil 10 rfl rfl (fun _ hF => .move (lk 6 rfl rfl)) ?_
      refine S.sil 11 rfl rfl (fun _ hF => .move (lk 5 rfl rfl)) ?_
      obtain ⟨j5, m5, h2⟩ := h2.bnd
      refine S.sil 12 rfl rfl (fun _ hF => .ixS sli40 (lk 1 rfl rfl) (lk 0 rfl rfl) m5) ?_
      obtain ⟨v6, ev6, h2⟩ := h2.nam
      refine S.sil 13 rfl rfl (fun _ hF => .nv (.loadC sz101 ag101 (lk 0 rfl rfl) (ty_THold.fl (a1.getD j5 default)) rfl) (congrArg E_THold ev6.symm)) ?_
      obtain ⟨r7, m7, h2⟩ := h2.bnd
      refine S.sil 14 rfl rfl (fun _ hF => .callQ ent141 cF (.c (lk 0 rfl rfl) (V.sub.refl _) .nil) (C_usufructref06_Right m7)) ?_
      refine S.sil 15 rfl rfl (fun _ hF => .not (lk 0 rfl rfl)) ?_
      refine S.sil 16 rfl rfl (fun _ hF => .move (lk 0 rfl rfl)) ?_
      refine S.gsil 17 6 16 false rfl rfl rfl (lk 0 rfl rfl) (fun hB _ hF => .move (lk 11 rfl rfl)) ?_
      refine S.gsil 18 6 16 false rfl rfl rfl (lk 1 rfl rfl) (fun hB _ hF => .gtr (ifT hB (lk 0 rfl rfl)) cI) ?_
      refine S.gsil 19 6 16 false rfl rfl rfl (lk 2 rfl rfl) (fun hB _ hF => .move (ifT hB (lk 0 rfl rfl))) ?_
      refine S.gsil2 20 9 19 true rfl rfl rfl (lk 0 rfl rfl) (fun hB _ hF => .move (lk 16 rfl rfl)) ?_
      refine S.gsil2 21 9 19 true rfl rfl rfl (lk 1 rfl rfl) (fun hB _ hF => .move (lk 15 rfl rfl)) ?_
      refine S.gsil2 22 9 19 true rfl rfl rfl (lk 2 rfl rfl) (fun hB _ hF => .sub (ifT hB (lk 0 rfl rfl)) cI) ?_
      obtain ⟨j8, m8, h2⟩ := h2.bnd
      refine S.gsil2 23 9 19 true rfl rfl rfl (lk 3 rfl rfl) (fun hB _ hF => .ixS sli40 (ifT hB (lk 2 rfl rfl)) (ifT hB (lk 0 rfl rfl)) (gd_get m8 hB)) ?_
      refine S.gsil2 24 9 19 true rfl rfl rfl (lk 4 rfl rfl) (fun hB _ hF => .loadC sz101 ag101 (ifT hB (lk 0 rfl rfl)) (ty_THold.fl (a1.getD j8 default)) rfl) ?_
      refine S.gsil2 25 9 19 true rfl rfl rfl (lk 5 rfl rfl) (fun hB _ hF => .move (lk 21 rfl rfl)) ?_
      refine S.gsil2 26 9 19 true rfl rfl rfl (lk 6 rfl rfl) (fun hB _ hF => .move (lk 20 rfl rfl)) ?_
      obtain ⟨j9, m9, h2⟩ := h2.bnd
      refine S.gsil2 27 9 19 true rfl rfl rfl (lk 7 rfl rfl) (fun hB _ hF => .ixS sli40 (ifT hB (lk 1 rfl rfl)) (ifT hB (lk 0 rfl rfl)) (gd_get m9 hB)) ?_
      refine S.gsil2 28 9 19 true rfl rfl rfl (lk 8 rfl rfl) (fun hB _ hF => .loadC sz101 ag101 (ifT hB (lk 0 rfl rfl)) (ty_THold.fl (a1.getD j9 default)) rfl) ?_
      obtain ⟨r10, m10, h2⟩ := h2.bnd
      refine S.gsil2 29 9 19 true rfl rfl rfl (lk 9 rfl rfl) (fun hB _ hF => .callQ ent142 cF (.c (ifT hB (lk 4 rfl rfl)) (V.sub.refl _) (.c (ifT hB (lk 0 rfl rfl)) (V.sub.refl _) .nil)) (C_usufructref06_Ahead (gd_get m10 hB))) ?_
      refine S.gsil2 30 9 19 true rfl rfl rfl (lk 10 rfl rfl) (fun hB _ hF => .not (ifT hB (lk 0 rfl rfl))) ?_
      refine S.gsil 31 6 16 false rfl rfl rfl (lk 14 rfl rfl) (fun hB _ hF => .pickAnd (ifT hB (lk 11 rfl rfl)) (fun h => ifT ⟨hB, h⟩ (lk 0 rfl rfl)) cB) ?_
      refine S.sil 32 rfl rfl (fun _ hF => .pickOr (lk 15 rfl rfl) cB (fun h => ifT h (lk 0 rfl rfl))) ?_
      refine S.nilD (by kernel_rfl) ?_
      refine thenQ_n ?_
      refine AWp.prune (.eq (lk 0 rfl rfl) rfl (.eq (lk 16 rfl rfl) rfl (.eq (lk 17 rfl rfl) rfl (.eq (lk 18 rfl rfl) rfl (.eq (lk 19 rfl rfl) rfl (.eq (lk 20 rfl rfl) rfl (.eq (lk 21 rfl rfl) rfl (.eq (lk 22 rfl rfl) rfl (.eq (lk 23 rfl rfl) rfl (.eq (lk 24 rfl rfl) rfl (.eq (lk 25 rfl rfl) rfl (.eq (lk 26 rfl rfl) rfl (.eq (lk 27 rfl rfl) rfl (.eq (lk 28 rfl rfl) rfl (.eq (lk 29 rfl rfl) rfl .nil))))))))))))))) ?_
      refine AWp.condM (lk 0 rfl rfl) h2 (fun c2 h2 => ?_) (fun c2 h2 => ?_)
      · skip
        refine AWp.seq ?_
        refine W.reg [0] rfl ?_
        refine S.sil 2 rfl rfl (fun _ hF => .assign cB) ?_
        refine S.nil ?_
        refine thenQ_n ?_
        refine AWp.ret ?_
        refine blockQ_r ?_
        refine thenQ_r ?_
        refine thenQ_r ?_
        refine blockQ_r ?_
        refine thenQ_r ?_
        refine thenQ_r ?_
        have h := Ok.inrq h h2.ret
        obtain rfl := h.ret
        exact endF1 rfl (Wk.selS [] .nil rfl (SelE.leaf (lk 0 rfl rfl) rfl (.refl _) (fun m => (TyOk.bool.lt _ _)) .nil) .nil) (.tmp (lk 0 rfl rfl) rfl) rfl rfl
      · skip
        refine AWp.skip ?_
        refine blockQ_n ?_
        refine thenQ_n ?_
        refine W.reg [0, 1, 2] rfl ?_
        refine S.sil 8 rfl rfl (fun _ hF => .move (lk 12 rfl rfl)) ?_
        refine S.sil 9 rfl rfl (fun _ hF => .add (lk 0 rfl rfl) cI) ?_
        refine S.sil 3 rfl rfl (fun _ hF => .assign (lk 0 rfl rfl)) ?_
        refine S.nil ?_
        refine thenQ_n ?_
        exact ⟨_, h2.ret, (Wk.selS [] (by decide) rfl (SelE.leaf (lk 0 rfl rfl) rfl (.refl _) (fun m => ((TyOk.int .i64).lt _ _)) (SelE.leaf (lk 16 rfl rfl) rfl (.refl _) (fun m => (TyOk.bool.lt _ _)) (SelE.leaf (lk 17 rfl rfl) rfl (.refl _) (fun m => (lt_sl rfl (ty_THold.ltm _ _))) .nil))) .nil)⟩
    · skip
      refine AWp.exit ?_
      refine thenQ_x ?_
      refine thenQ_x ?_
      refine blockQ_x ?_
      refine thenQ_n ?_
      exact ⟨_, h2.ret, (Wk.selS [] (by decide) rfl (SelE.leaf (lk 5 rfl rfl) rfl (.refl _) (fun m => (TyOk.bool.lt _ _)) (SelE.leaf (lk 6 rfl rfl) rfl (.refl _) (fun m => (lt_sl rfl (ty_THold.ltm _ _))) .nil)) .nil)⟩
  · skip
    refine thenQ_n ?_
    refine AWp.seq ?_
    refine W.reg [0, 1, 2, 3] rfl ?_
    refine S.sil 33 rfl rfl (fun _ hF => .move (lk 1 rfl rfl)) ?_
    refine S.sil 34 rfl rfl (fun _ hF => .lenT sli40 (lk 0 rfl rfl) (vsub rfl (.refl _))) ?_
    refine S.sil 35 rfl rfl (fun _ hF => .leq (lk 0 rfl rfl) cI) ?_
    obtain ⟨v11, ev11, h⟩ := h.nam
    refine S.sil 2 rfl rfl (fun _ hF => .nv (.assign (lk 0 rfl rfl)) (congrArg V.bool ev11.symm)) ?_
    refine S.nil ?_
    refine thenQ_n ?_
    refine AWp.ret ?_
    obtain rfl := h.ret
    exact endF1 rfl (Wk.selS [] .nil rfl (SelE.leaf (lk 0 rfl rfl) rfl (.refl _) (fun m => (TyOk.bool.lt _ _)) .nil) .nil) (.tmp (lk 0 rfl rfl) rfl) rfl rfl
theorem C_usufructref05_Right {a1 : TLock} {r : Bool} (h : usufructref05_Right a1 = some r) : PureC Pg 73 [E_TLock a1] (V.bool r) := by
  refine PureC.ofF (CallSpec.of_bodyF 36 0 fn73 rfl rfl rfl (Nat.le_of_ble_eq_true rfl) ?_) (ltL_c (ty_TLock.lt _ _) ltL_nil) (TyOk.bool.lt _ _)
  replace h := Ok.of h
  unfold usufructref05_Right at h
  refine AWp.seq ?_
  refine W.reg [0, 1] rfl ?_
  refine S.eff 1 rfl rfl (.nf (v2 := .ptr 0 [] 0) (H2 := [.cells (E_TLock a1)]) (.box (lk 0 rfl rfl) rfl) rfl rfl) trivial ?_
  refine S.sil 2 rfl rfl (fun _ hF => .assign cB) ?_
  refine S.nil ?_
  refine thenQ_n ?_
  refine AWp.wk (Wk.freeze 0 rfl rfl (.same (lk 0 rfl rfl) (.cons (lk 1 rfl rfl) rfl (.ptr .nil (by first | rfl | omega)) .nil)) (.refl _)) ?_
  refine AWp.seq ?_
  refine W.reg [0, 1, 2, 3, 4, 5, 6, 7, 8, 9, 10, 11, 12, 13, 14, 15, 16, 17, 18, 19, 20, 21, 22, 23, 24, 25, 26, 27, 28, 29, 30, 31, 32, 33] rfl ?_
  refine S.sil 3 rfl rfl (fun _ hF => .fieldAddrC lay39 rfl rfl (lk 1 rfl rfl) rfl flL_nil) ?_
  refine S.sil 4 rfl rfl (fun _ hF => .loadC sz3 ag3 (lk 0 rfl rfl) rfl rfl) ?_
  refine S.sil 5 rfl rfl (fun _ hF => .geq (lk 0 rfl rfl) cI) ?_
  refine S.sil 6 rfl rfl (fun _ hF => .move (lk 0 rfl rfl)) ?_
  refine S.gsil 7 3 6 true rfl rfl rfl (lk 0 rfl rfl) (fun hB _ hF => .fieldAddrC lay39 rfl rfl (lk 5 rfl rfl) rfl flL_nil) ?_
  refine S.gsil 8 3 6 true rfl rfl rfl (lk 1 rfl rfl) (fun hB _ hF => .loadC sz3 ag3 (ifT hB (lk 0 rfl rfl)) rfl rfl) ?_
  obtain ⟨r2, m2, h⟩ := h.bnd
  refine S.gsil 9 3 6 true rfl rfl rfl (lk 2 rfl rfl) (fun hB _ hF => .callQ ent70 cF (.c (ifT hB (lk 0 rfl rfl)) (V.sub.refl _) .nil) (C_usufructref01_Is (gd_get m2 hB))) ?_
  refine S.sil 10 rfl rfl (fun _ hF => .pickAnd (lk 3 rfl rfl) (fun h => ifT h (lk 0 rfl rfl)) cB) ?_
  refine S.sil 11 rfl rfl (fun _ hF => .move (lk 0 rfl rfl)) ?_
  refine S.gsil 12 8 11 true rfl rfl rfl (lk 0 rfl rfl) (fun hB _ hF => .fieldAddrC lay39 rfl rfl (lk 10 rfl rfl) rfl (flL_c (show flen _ = 1 from rfl) flL_nil)) ?_
  refine S.gsil 13 8 11 true rfl rfl rfl (lk 1 rfl rfl) (fun hB _ hF => .loadC sz3 ag3 (ifT hB (lk 0 rfl rfl)) rfl rfl) ?_
  refine S.gsil 14 8 11 true rfl rfl rfl (lk 2 rfl rfl) (fun hB _ hF => .geq (ifT hB (lk 0 rfl rfl)) cI) ?_
  refine S.sil 15 rfl rfl (fun _ hF => .pickAnd (lk 3 rfl rfl) (fun h => ifT h (lk 0 rfl rfl)) cB) ?_
  refine S.sil 16 rfl rfl (fun _ hF => .move (lk 0 rfl rfl)) ?_
  refine S.gsil 17 13 16 true rfl rfl rfl (lk 0 rfl rfl) (fun hB _ hF => .fieldAddrC lay39 rfl rfl (lk 15 rfl rfl) rfl (flL_c (show flen _ = 1 from rfl) flL_nil)) ?_
  refine S.gsil 18 13 16 true rfl rfl rfl (lk 1 rfl rfl) (fun hB _ hF => .loadC sz3 ag3 (ifT hB (lk 0 rfl rfl)) rfl rfl) ?_
  obtain ⟨r3, m3, h⟩ := h.bnd
  refine S.gsil 19 13 16 true rfl rfl rfl (lk 2 rfl rfl) (fun hB _ hF => .callQ ent70 cF (.c (ifT hB (lk 0 rfl rfl)) (V.sub.refl _) .nil) (C_usufructref01_Is (gd_get m3 hB))) ?_
  refine S.sil 20 rfl rfl (fun _ hF => .pickAnd (lk 3 rfl rfl) (fun h => ifT h (lk 0 rfl rfl)) cB) ?_
  refine S.sil 21 rfl rfl (fun _ hF => .move (lk 0 rfl rfl)) ?_
  refine S.gsil 22 18 21 true rfl rfl rfl (lk 0 rfl rfl) (fun hB _ hF => .fieldAddrC lay39 rfl rfl (lk 20 rfl rfl) rfl (flL_c (show flen _ = 1 from rfl) (flL_c (show flen _ = 1 from rfl) flL_nil))) ?_
  refine S.gsil 23 18 21 true rfl rfl rfl (lk 1 rfl rfl) (fun hB _ hF => .loadC sz3 ag3 (ifT hB (lk 0 rfl rfl)) rfl rfl) ?_
  refine S.gsil 24 18 21 true rfl rfl rfl (lk 2 rfl rfl) (fun hB _ hF => .geq (ifT hB (lk 0 rfl rfl)) cI) ?_
  obtain ⟨v4, ev4, h⟩ := h.nam
  refine S.sil 25 rfl rfl (fun _ hF => .nv (.pickAnd (lk 3 rfl rfl) (fun h => ifT h (lk 0 rfl rfl)) cB) (congrArg V.bool ev4.symm)) ?_
  refine S.sil 26 rfl rfl (fun _ hF => .move (lk 0 rfl rfl)) ?_
  refine S.gsil 27 23 26 true rfl rfl rfl (lk 0 rfl rfl) (fun hB _ hF => .fieldAddrC lay39 rfl rfl (lk 25 rfl rfl) rfl (flL_c (show flen _ = 1 from rfl) (flL_c (show flen _ = 1 from rfl) flL_nil))) ?_
  refine S.gsil 28 23 26 true rfl rfl rfl (lk 1 rfl rfl) (fun hB _ hF => .loadC sz3 ag3 (ifT hB (lk 0 rfl rfl)) rfl rfl) ?_
  refine S.gsil 29 23 26 true rfl rfl rfl (lk 2 rfl rfl) (fun hB _ hF => .leq (ifT hB (lk 0 rfl rfl)) cI) ?_
  refine S.sil 30 rfl rfl (fun _ hF => .pickAnd (lk 3 rfl rfl) (fun h => ifT h (lk 0 rfl rfl)) cB) ?_
  refine S.sil 31 rfl rfl (fun _ hF => .move (lk 0 rfl rfl)) ?_
  refine S.gsil 32 28 31 true rfl rfl rfl (lk 0 rfl rfl) (fun hB _ hF => .fieldAddrC lay39 rfl rfl (lk 30 rfl rfl) rfl (flL_c (show flen _ = 1 from rfl) (flL_c (show flen _ = 1 from rfl) (flL_c (show flen _ = 1 from rfl) flL_nil)))) ?_
  refine S.gsil 33 28 31 true rfl rfl rfl (lk 1 rfl rfl) (fun hB _ hF => .loadC sz3 ag3 (ifT hB (lk 0 rfl rfl)) rfl rfl) ?_
  obtain ⟨r5, m5, h⟩ := h.bnd
  refine S.gsil 34 28 31 true rfl rfl rfl (lk 2 rfl rfl) (fun hB _ hF => .callQ ent70 cF (.c (ifT hB (lk 0 rfl rfl)) (V.sub.refl _) .nil) (C_usufructref01_Is (gd_get m5 hB))) ?_
  refine S.sil 35 rfl rfl (fun _ hF => .pickAnd (lk 3 rfl rfl) (fun h => ifT h (lk 0 rfl rfl)) cB) ?_
  obtain ⟨v6, ev6, h⟩ := h.nam
  refine S.sil 2 rfl rfl (fun _ hF => .nv (.assign (lk 0 rfl rfl)) (congrArg V.bool ev6.symm)) ?_
  refine S.nil ?_
  refine thenQ_n ?_
  refine AWp.prune (.eq (lk 0 rfl rfl) rfl .nil) ?_
  refine AWp.ret ?_
  obtain rfl := h.ret
  exact endF1 rfl (Wk.selS [] .nil rfl (SelE.leaf (lk 0 rfl rfl) rfl (.refl _) (fun m => (TyOk.bool.lt _ _)) .nil) .nil) (.tmp (lk 0 rfl rfl) rfl) rfl rfl
theorem C_usufructref07_Right {a1 : TField} {r : Bool} (h : usufructref07_Right a1 = some r) : PureC Pg 20 [E_TField a1] (V.bool r) := by
  refine PureC.ofF (CallSpec.of_bodyF 55 0 fn20 rfl rfl rfl (Nat.le_of_ble_eq_true rfl) ?_) (ltL_c (ty_TField.lt _ _) ltL_nil) (TyOk.bool.lt _ _)
  replace h := Ok.of h
  unfold usufructref07_Right at h
  refine AWp.seq ?_
  refine W.reg [0, 1] rfl ?_
  refine S.eff 1 rfl rfl (.nf (v2 := .ptr 0 [] 0) (H2 := [.cells (E_TField a1)]) (.box (lk 0 rfl rfl) rfl) rfl rfl) trivial ?_
  refine S.sil 2 rfl rfl (fun _ hF => .assign cB) ?_
  refine S.nil ?_
  refine thenQ_n ?_
  refine AWp.wk (Wk.freeze 0 rfl rfl (.same (lk 0 rfl rfl) (.cons (lk 1 rfl rfl) rfl (.ptr .nil (by first | rfl | omega)) .nil)) (.refl _)) ?_
  refine AWp.seq ?_
  refine AWp.seq ?_
  refine W.reg [0, 1, 2, 3, 4, 5, 6, 7, 8, 9, 10, 11, 12, 13, 14] rfl ?_
  refine S.sil 3 rfl rfl (fun _ hF => .fieldAddrC lay42 rfl rfl (lk 1 rfl rfl) rfl flL_nil) ?_
  refine S.sil 4 rfl rfl (fun _ hF => .loadC sz9 ag9 (lk 0 rfl rfl) rfl rfl) ?_
  obtain ⟨r2, m2, h⟩ := h.bnd
  refine S.sil 5 rfl rfl (fun _ hF => .callQ ent69 cF (.c (lk 0 rfl rfl) (V.sub.refl _) .nil) (C_usufructref07_Name m2)) ?_
  refine S.sil 6 rfl rfl (fun _ hF => .not (lk 0 rfl rfl)) ?_
  refine S.sil 7 rfl rfl (fun _ hF => .move (lk 0 rfl rfl)) ?_
  refine S.gsil 8 4 7 false rfl rfl rfl (lk 0 rfl rfl) (fun hB _ hF => .fieldAddrC lay42 rfl rfl (lk 6 rfl rfl) rfl (flL_c (show flen _ = 1 from rfl) (flL_c (show flen _ = 1 from rfl) flL_nil))) ?_
  refine S.gsil 9 4 7 false rfl rfl rfl (lk 1 rfl rfl) (fun hB _ hF => .loadC sz3 ag3 (ifT hB (lk 0 rfl rfl)) rfl rfl) ?_
  refine S.gsil 10 4 7 false rfl rfl rfl (lk 2 rfl rfl) (fun hB _ hF => .lss (ifT hB (lk 0 rfl rfl)) cI) ?_
  refine S.sil 11 rfl rfl (fun _ hF => .pickOr (lk 3 rfl rfl) cB (fun h => ifT h (lk 0 rfl rfl))) ?_
  refine S.sil 12 rfl rfl (fun _ hF => .move (lk 0 rfl rfl)) ?_
  refine S.gsil 13 9 12 false rfl rfl rfl (lk 0 rfl rfl) (fun hB _ hF => .fieldAddrC lay42 rfl rfl (lk 11 rfl rfl) rfl (flL_c (show flen _ = 1 from rfl) (flL_c (show flen _ = 1 from rfl) flL_nil))) ?_
  refine S.gsil 14 9 12 false rfl rfl rfl (lk 1 rfl rfl) (fun hB _ hF => .loadC sz3 ag3 (ifT hB (lk 0 rfl rfl)) rfl rfl) ?_
  obtain ⟨r3, m3, h⟩ := h.bnd
  refine S.gsil 15 9 12 false rfl rfl rfl (lk 2 rfl rfl) (fun hB _ hF => .callQ ent70 cF (.c (ifT hB (lk 0 rfl rfl)) (V.sub.refl _) .nil) (C_usufructref01_Is (gd_get m3 hB))) ?_
  refine S.gsil 16 9 12 false rfl rfl rfl (lk 3 rfl rfl) (fun hB _ hF => .not (ifT hB (lk 0 rfl rfl))) ?_
  refine S.sil 17 rfl rfl (fun _ hF => .pickOr (lk 4 rfl rfl) cB (fun h => ifT h (lk 0 rfl rfl))) ?_
  refine S.nil ?_
  refine thenQ_n ?_
  refine AWp.prune (.eq (lk 0 rfl rfl) rfl (.eq (lk 15 rfl rfl) rfl (.eq (lk 16 rfl rfl) rfl .nil))) ?_
  refine AWp.condM (lk 0 rfl rfl) h (fun c1 h => ?_) (fun c1 h => ?_)
  · skip
    refine AWp.seq ?_
    refine W.reg [0] rfl ?_
    refine S.sil 2 rfl rfl (fun _ hF => .assign cB) ?_
    refine S.nil ?_
    refine thenQ_n ?_
    refine AWp.ret ?_
    refine thenQ_r ?_
    obtain rfl := h.ret
    exact endF1 rfl (Wk.selS [] .nil rfl (SelE.leaf (lk 0 rfl rfl) rfl (.refl _) (fun m => (TyOk.bool.lt _ _)) .nil) .nil) (.tmp (lk 0 rfl rfl) rfl) rfl rfl
  · skip
    refine AWp.skip ?_
    refine thenQ_n ?_
    refine AWp.seq ?_
    refine AWp.seq ?_
    refine W.reg [0, 1, 2] rfl ?_
    refine S.sil 18 rfl rfl (fun _ hF => .fieldAddrC lay42 rfl rfl (lk 2 rfl rfl) rfl (flL_c (show flen _ = 1 from rfl) flL_nil)) ?_
    refine S.sil 19 rfl rfl (fun _ hF => .loadC sz3 ag3 (lk 0 rfl rfl) rfl rfl) ?_
    refine S.sil 20 rfl rfl (fun _ hF => .eql (lk 0 rfl rfl) cI) ?_
    refine S.nil ?_
    refine thenQ_n ?_
    refine AWp.condM (lk 0 rfl rfl) h (fun c2 h => ?_) (fun c2 h => ?_)
    · skip
      refine AWp.seq ?_
      refine W.reg [0, 1, 2, 3, 4, 5, 6, 7, 8, 9, 10, 11, 12, 13, 14] rfl ?_
      refine S.sil 21 rfl rfl (fun _ hF => .fieldAddrC lay42 rfl rfl (lk 5 rfl rfl) rfl (flL_c (show flen _ = 1 from rfl) (flL_c (show flen _ = 1 from rfl) (flL_c (show flen _ = 1 from rfl) flL_nil)))) ?_
      refine S.sil 22 rfl rfl (fun _ hF => .loadC sz37 ag37 (lk 0 rfl rfl) (ty_TCounter.fl a1.Counter) rfl) ?_
      obtain ⟨r4, m4, h⟩ := h.bnd
      refine S.sil 23 rfl rfl (fun _ hF => .callQ ent71 cF (.c (lk 0 rfl rfl) (V.sub.refl _) .nil) (C_usufructref04_Right m4)) ?_
      refine S.sil 24 rfl rfl (fun _ hF => .move (lk 0 rfl rfl)) ?_
      refine S.gsil 25 3 24 true rfl rfl rfl (lk 0 rfl rfl) (fun hB _ hF => .fieldAddrC lay42 rfl rfl (lk 9 rfl rfl) rfl (flL_c (show flen _ = 1 from rfl) (flL_c (show flen _ = 1 from rfl) (flL_c (show flen _ = 1 from rfl) (flL_c (ty_TCounter.fl a1.Counter) (flL_c (ty_TLock.fl a1.Lock) flL_nil)))))) ?_
      refine S.gsil 26 3 24 true rfl rfl rfl (lk 1 rfl rfl) (fun hB _ hF => .loadC sz40 ag40 (ifT hB (lk 0 rfl rfl)) rfl rfl) ?_
      obtain ⟨r5, m5, h⟩ := h.bnd
      refine S.gsil 27 3 24 true rfl rfl rfl (lk 2 rfl rfl) (fun hB _ hF => .callQ ent72 cF (.c (ifT hB (lk 0 rfl rfl)) (V.sub.refl _) .nil) (C_usufructref06_Rights (gd_get m5 hB))) ?_
      refine S.sil 28 rfl rfl (fun _ hF => .pickAnd (lk 3 rfl rfl) (fun h => ifT h (lk 0 rfl rfl)) cB) ?_
      refine S.sil 29 rfl rfl (fun _ hF => .move (lk 0 rfl rfl)) ?_
      refine S.gsil 30 8 29 true rfl rfl rfl (lk 0 rfl rfl) (fun hB _ hF => .fieldAddrC lay42 rfl rfl (lk 14 rfl rfl) rfl (flL_c (show flen _ = 1 from rfl) (flL_c (show flen _ = 1 from rfl) (flL_c (show flen _ = 1 from rfl) (flL_c (ty_TCounter.fl a1.Counter) flL_nil))))) ?_
      refine S.gsil 31 8 29 true rfl rfl rfl (lk 1 rfl rfl) (fun hB _ hF => .loadC sz39 ag39 (ifT hB (lk 0 rfl rfl)) (ty_TLock.fl a1.Lock) rfl) ?_
      refine S.gsil 32 8 29 true rfl rfl rfl (lk 2 rfl rfl) (fun hB _ hF => .nv (v2 := E_TLock (⟨0, 0, 0, 0⟩ : TLock)) (.buildStW lay39 zv39 rfl .nil) rfl) ?_
      refine S.gsil 33 8 29 true rfl rfl rfl (lk 3 rfl rfl) (fun hB _ hF => .eqlT eqt39 eqk_TLock shk_TLock (ifT hB (lk 1 rfl rfl)) (ifT hB (lk 0 rfl rfl)) rfl rfl) ?_
      refine S.sil 34 rfl rfl (fun _ hF => .pickAnd (lk 4 rfl rfl) (fun h => ifT h (lk 0 rfl rfl)) cB) ?_
      obtain ⟨v6, ev6, h⟩ := h.nam
      refine S.sil 2 rfl rfl (fun _ hF => .nv (.assign (lk 0 rfl rfl)) (congrArg V.bool ev6.symm)) ?_
      refine S.nil ?_
      refine thenQ_n ?_
      refine AWp.prune (.eq (lk 0 rfl rfl) rfl (.eq (lk 20 rfl rfl) rfl .nil)) ?_
      refine AWp.ret ?_
      refine thenQ_r ?_
      obtain rfl := h.ret
      exact endF1 rfl (Wk.selS [] .nil rfl (SelE.leaf (lk 0 rfl rfl) rfl (.refl _) (fun m => (TyOk.bool.lt _ _)) .nil) .nil) (.tmp (lk 0 rfl rfl) rfl) rfl rfl
    · skip
      refine AWp.skip ?_
      refine thenQ_n ?_
      refine AWp.seq ?_
      refine W.reg [0, 1, 2, 3, 4, 5, 6, 7, 8, 9, 10, 11, 12, 13, 14, 15, 16, 17, 18, 19, 20] rfl ?_
      refine S.sil 35 rfl rfl (fun _ hF => .fieldAddrC lay42 rfl rfl (lk 5 rfl rfl) rfl (flL_c (show flen _ = 1 from rfl) flL_nil)) ?_
      refine S.sil 36 rfl rfl (fun _ hF => .loadC sz3 ag3 (lk 0 rfl rfl) rfl rfl) ?_
      refine S.sil 37 rfl rfl (fun _ hF => .eql (lk 0 rfl rfl) cI) ?_
      refine S.sil 38 rfl rfl (fun _ hF => .move (lk 0 rfl rfl)) ?_
      refine S.gsil 39 3 38 true rfl rfl rfl (lk 0 rfl rfl) (fun hB _ hF => .fieldAddrC lay42 rfl rfl (lk 9 rfl rfl) rfl (flL_c (show flen _ = 1 from rfl) (flL_c (show flen _ = 1 from rfl) (flL_c (show flen _ = 1 from rfl) (flL_c (ty_TCounter.fl a1.Counter) flL_nil))))) ?_
      refine S.gsil 40 3 38 true rfl rfl rfl (lk 1 rfl rfl) (fun hB _ hF => .loadC sz39 ag39 (ifT hB (lk 0 rfl rfl)) (ty_TLock.fl a1.Lock) rfl) ?_
      obtain ⟨r7, m7, h⟩ := h.bnd
      refine S.gsil 41 3 38 true rfl rfl rfl (lk 2 rfl rfl) (fun hB _ hF => .callQ ent73 cF (.c (ifT hB (lk 0 rfl rfl)) (V.sub.refl _) .nil) (C_usufructref05_Right (gd_get m7 hB))) ?_
      refine S.sil 42 rfl rfl (fun _ hF => .pickAnd (lk 3 rfl rfl) (fun h => ifT h (lk 0 rfl rfl)) cB) ?_
      refine S.sil 43 rfl rfl (fun _ hF => .move (lk 0 rfl rfl)) ?_
      refine S.gsil 44 8 43 true rfl rfl rfl (lk 0 rfl rfl) (fun hB _ hF => .fieldAddrC lay42 rfl rfl (lk 14 rfl rfl) rfl (flL_c (show flen _ = 1 from rfl) (flL_c (show flen _ = 1 from rfl) (flL_c (show flen _ = 1 from rfl) (flL_c (ty_TCounter.fl a1.Counter) (flL_c (ty_TLock.fl a1.Lock) flL_nil)))))) ?_
      refine S.gsil 45 8 43 true rfl rfl rfl (lk 1 rfl rfl) (fun hB _ hF => .loadC sz40 ag40 (ifT hB (lk 0 rfl rfl)) rfl rfl) ?_
      refine S.gsil 46 8 43 true rfl rfl rfl (lk 2 rfl rfl) (fun hB _ hF => .lenT sli40 (ifT hB (lk 0 rfl rfl)) (vsub rfl (.refl _))) ?_
      refine S.gsil 47 8 43 true rfl rfl rfl (lk 3 rfl rfl) (fun hB _ hF => .eql (ifT hB (lk 0 rfl rfl)) cI) ?_
      obtain ⟨v8, ev8, h⟩ := h.nam
      refine S.sil 48 rfl rfl (fun _ hF => .nv (.pickAnd (lk 4 rfl rfl) (fun h => ifT h (lk 0 rfl rfl)) cB) (congrArg V.bool ev8.symm)) ?_
      refine S.sil 49 rfl rfl (fun _ hF => .move (lk 0 rfl rfl)) ?_
      refine S.gsil 50 14 49 true rfl rfl rfl (lk 0 rfl rfl) (fun hB _ hF => .fieldAddrC lay42 rfl rfl (lk 20 rfl rfl) rfl (flL_c (show flen _ = 1 from rfl) (flL_c (show flen _ = 1 from rfl) (flL_c (show flen _ = 1 from rfl) flL_nil)))) ?_
      refine S.gsil 51 14 49 true rfl rfl rfl (lk 1 rfl rfl) (fun hB _ hF => .loadC sz37 ag37 (ifT hB (lk 0 rfl rfl)) (ty_TCounter.fl a1.Counter) rfl) ?_
      refine S.gsil 52 14 49 true rfl rfl rfl (lk 2 rfl rfl) (fun hB _ hF => .nv (v2 := E_TCounter (⟨0, 0, 0, (default : TRights), (default : TRights)⟩ : TCounter)) (.buildStW lay37 zv37 rfl .nil) rfl) ?_
      refine S.gsil 53 14 49 true rfl rfl rfl (lk 3 rfl rfl) (fun hB _ hF => .eqlT eqt37 eqk_TCounter shk_TCounter (ifT hB (lk 1 rfl rfl)) (ifT hB (lk 0 rfl rfl)) rfl rfl) ?_
      obtain ⟨v9, ev9, h⟩ := h.nam
      refine S.sil 54 rfl rfl (fun _ hF => .nv (.pickAnd (lk 4 rfl rfl) (fun h => ifT h (lk 0 rfl rfl)) cB) (congrArg V.bool ev9.symm)) ?_
      refine S.sil 2 rfl rfl (fun _ hF => .assign (lk 0 rfl rfl)) ?_
      refine S.nil ?_
      refine thenQ_n ?_
      refine AWp.prune (.eq (lk 0 rfl rfl) rfl .nil) ?_
      refine AWp.ret ?_
      obtain rfl := h.ret
      exact endF1 rfl (Wk.selS [] .nil rfl (SelE.leaf (lk 0 rfl rfl) rfl (.refl _) (fun m => (TyOk.bool.lt _ _)) .nil) .nil) (.tmp (lk 0 rfl rfl) rfl) rfl rfl
end Go.Av
