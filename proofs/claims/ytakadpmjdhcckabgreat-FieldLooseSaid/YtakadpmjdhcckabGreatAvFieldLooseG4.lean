/- Each function tells what its mirror tells. -/
import Derived.Test.YtakadpmjdhcckabGreatAvFieldLooseG3
import Derived.Test.YtakadpmjdhcckabGreatProg
import Derived.KernelRfl
namespace Go.Av
set_option linter.unusedSectionVars false
open Go.Proofs
set_option linter.unusedVariables false
set_option linter.unusedSimpArgs false
set_option maxHeartbeats 4000000
set_option maxRecDepth 10000
theorem C_usufructlaw07_FieldLoose {a1 : Int} {a2 : Int} {a3 : Int} {a4 : List Tusufructlaw07_Do} {a5 : Int} {a6 : Int} {r : Bool} (h : usufructlaw07_FieldLoose a1 a2 a3 a4 a5 a6 = some r) : PureC Pg 9 [(V.int .i64) a1, (V.int .i64) a2, (V.int .i64) a3, .sl 5 .no (List.map E_Tusufructlaw07_Do a4), (V.int .i64) a5, (V.int .i64) a6] (V.bool r) := by
  refine PureC.ofF (CallSpec.of_bodyF 222 0 fn9 rfl rfl rfl (Nat.le_of_ble_eq_true rfl) ?_) (ltL_c ((TyOk.int .i64).lt _ _) (ltL_c ((TyOk.int .i64).lt _ _) (ltL_c ((TyOk.int .i64).lt _ _) (ltL_c (lt_sl rfl (ty_Tusufructlaw07_Do.ltm _ _)) (ltL_c ((TyOk.int .i64).lt _ _) (ltL_c ((TyOk.int .i64).lt _ _) ltL_nil)))))) (TyOk.bool.lt _ _)
  replace h := Ok.of h
  unfold usufructlaw07_FieldLoose at h
  refine AWp.seq ?_
  refine W.reg [0] rfl ?_
  refine S.sil 12 rfl rfl (fun _ hF => .assign cB) ?_
  refine S.nil ?_
  refine thenQ_n ?_
  refine AWp.seq ?_
  refine W.reg [0, 1, 2, 3, 4, 5, 6, 7, 8, 9] rfl ?_
  refine S.sil 39 rfl rfl (fun _ hF => .move (lk 1 rfl rfl)) ?_
  refine S.sil 40 rfl rfl (fun _ hF => .move (lk 3 rfl rfl)) ?_
  refine S.sil 41 rfl rfl (fun _ hF => .move (lk 5 rfl rfl)) ?_
  obtain ⟨r7, m7, h⟩ := h.bnd
  refine S.sil 42 rfl rfl (fun _ hF => .callQ ent44 cF (.c cS (V.sub.refl _) (.c (lk 2 rfl rfl) (V.sub.refl _) (.c (lk 1 rfl rfl) (V.sub.refl _) (.c (lk 0 rfl rfl) (V.sub.refl _) .nil)))) (C_field_Counter m7)) ?_
  refine S.sil 38 rfl rfl (fun _ hF => .move (lk 0 rfl rfl)) ?_
  refine S.sil 43 rfl rfl (fun _ hF => .extract (lk 0 rfl rfl) rfl) ?_
  refine S.sil 44 rfl rfl (fun _ hF => .extract (lk 1 rfl rfl) rfl) ?_
  refine S.eff 13 rfl rfl (.nf (v2 := .ptr 0 [] 0) (H2 := [.cells (.st [V.str (default : ByteArray), (V.int .i64) 0, (V.int .i64) 0, E_TCounter (default : TCounter), E_TLock (default : TLock), .nils])]) (.alloc zv42) rfl rfl) trivial ?_
  refine S.effN rfl rfl (.nf (H2 := [.cells (E_TField r7.1)]) (.storeP sz42 (lk 0 rfl rfl) (lk 2 rfl rfl) rfl (.refl _) rfl .nil (by first | rfl | omega) .nil (ty_TField.fl r7.1) (fl_st (flL_c (show flen _ = 1 from rfl) (flL_c (show flen _ = 1 from rfl) (flL_c (show flen _ = 1 from rfl) (flL_c (ty_TCounter.fl (default : TCounter)) (flL_c (ty_TLock.fl (default : TLock)) (flL_c (show flen _ = 1 from rfl) flL_nil))))))) rfl) rfl rfl) trivial ?_
  refine S.sil 14 rfl rfl (fun _ hF => .assign (lk 1 rfl rfl)) ?_
  refine S.nil ?_
  refine thenQ_n ?_
  refine AWp.wk (Wk.freeze 0 rfl rfl (.same (lk 0 rfl rfl) (.cons (lk 1 rfl rfl) rfl (.ptr .nil (by first | rfl | omega)) (.same (lk 9 rfl rfl) (.same (lk 11 rfl rfl) (.same (lk 12 rfl rfl) (.same (lk 13 rfl rfl) (.same (lk 14 rfl rfl) (.same (lk 15 rfl rfl) .nil)))))))) (.refl _)) ?_
  refine AWp.seq ?_
  refine AWp.seq ?_
  refine W.reg [0, 1, 2, 3, 4, 5, 6, 7, 8, 9, 10, 11, 12, 13, 14, 15, 16, 17, 18, 19, 20, 21, 22] rfl ?_
  refine S.sil 45 rfl rfl (fun _ hF => .move (lk 0 rfl rfl)) ?_
  refine S.sil 46 rfl rfl (fun _ hF => .neq (lk 0 rfl rfl) cI) ?_
  refine S.sil 47 rfl rfl (fun _ hF => .move (lk 0 rfl rfl)) ?_
  refine S.gsil 48 2 47 false rfl rfl rfl (lk 0 rfl rfl) (fun hB _ hF => .move (lk 6 rfl rfl)) ?_
  refine S.gsil 49 2 47 false rfl rfl rfl (lk 1 rfl rfl) (fun hB _ hF => .lss (ifT hB (lk 0 rfl rfl)) cI) ?_
  refine S.sil 50 rfl rfl (fun _ hF => .pickOr (lk 2 rfl rfl) cB (fun h => ifT h (lk 0 rfl rfl))) ?_
  refine S.sil 51 rfl rfl (fun _ hF => .move (lk 0 rfl rfl)) ?_
  refine S.gsil 52 6 51 false rfl rfl rfl (lk 0 rfl rfl) (fun hB _ hF => .move (lk 11 rfl rfl)) ?_
  refine S.gsil 53 6 51 false rfl rfl rfl (lk 1 rfl rfl) (fun hB _ hF => .gtr (ifT hB (lk 0 rfl rfl)) cI) ?_
  obtain ⟨v8, ev8, h⟩ := h.nam
  refine S.sil 54 rfl rfl (fun _ hF => .nv (.pickOr (lk 2 rfl rfl) cB (fun h => ifT h (lk 0 rfl rfl))) (congrArg V.bool ev8.symm)) ?_
  refine S.sil 55 rfl rfl (fun _ hF => .move (lk 0 rfl rfl)) ?_
  refine S.gsil 56 10 55 false rfl rfl rfl (lk 0 rfl rfl) (fun hB _ hF => .move (lk 16 rfl rfl)) ?_
  refine S.gsil 57 10 55 false rfl rfl rfl (lk 1 rfl rfl) (fun hB _ hF => .lenT sli79 (ifT hB (lk 0 rfl rfl)) (vsub rfl (.refl _))) ?_
  refine S.gsil 58 10 55 false rfl rfl rfl (lk 2 rfl rfl) (fun hB _ hF => .gtr (ifT hB (lk 0 rfl rfl)) cI) ?_
  refine S.sil 59 rfl rfl (fun _ hF => .pickOr (lk 3 rfl rfl) cB (fun h => ifT h (lk 0 rfl rfl))) ?_
  refine S.sil 60 rfl rfl (fun _ hF => .move (lk 0 rfl rfl)) ?_
  refine S.gsil 61 15 60 false rfl rfl rfl (lk 0 rfl rfl) (fun hB _ hF => .move (lk 22 rfl rfl)) ?_
  refine S.gsil 62 15 60 false rfl rfl rfl (lk 1 rfl rfl) (fun hB _ hF => .lss (ifT hB (lk 0 rfl rfl)) cI) ?_
  refine S.sil 63 rfl rfl (fun _ hF => .pickOr (lk 2 rfl rfl) cB (fun h => ifT h (lk 0 rfl rfl))) ?_
  refine S.sil 64 rfl rfl (fun _ hF => .move (lk 0 rfl rfl)) ?_
  refine S.gsil 65 19 64 false rfl rfl rfl (lk 0 rfl rfl) (fun hB _ hF => .move (lk 26 rfl rfl)) ?_
  refine S.gsil 66 19 64 false rfl rfl rfl (lk 1 rfl rfl) (fun hB _ hF => .gtr (ifT hB (lk 0 rfl rfl)) cI) ?_
  obtain ⟨v9, ev9, h⟩ := h.nam
  refine S.sil 67 rfl rfl (fun _ hF => .nv (.pickOr (lk 2 rfl rfl) cB (fun h => ifT h (lk 0 rfl rfl))) (congrArg V.bool ev9.symm)) ?_
  refine S.nil ?_
  refine thenQ_n ?_
  refine AWp.prune (.eq (lk 0 rfl rfl) rfl (.eq (lk 23 rfl rfl) rfl (.eq (lk 24 rfl rfl) rfl (.eq (lk 25 rfl rfl) rfl (.eq (lk 28 rfl rfl) rfl (.eq (lk 29 rfl rfl) rfl (.eq (lk 30 rfl rfl) rfl .nil))))))) ?_
  refine AWp.condM (lk 0 rfl rfl) h (fun c1 h => ?_) (fun c1 h => ?_)
  · skip
    refine AWp.seq ?_
    refine W.reg [0, 1] rfl ?_
    obtain ⟨r10, m10, h⟩ := h.bnd
    refine S.sil 68 rfl rfl (fun _ hF => .callQ ent21 cF .nil (C_usufructlaw07_awake m10)) ?_
    refine S.sil 12 rfl rfl (fun _ hF => .assign (lk 0 rfl rfl)) ?_
    refine S.nil ?_
    refine thenQ_n ?_
    refine AWp.ret ?_
    refine thenQ_r ?_
    obtain rfl := h.ret
    exact endF1 rfl (Wk.selS [] .nil rfl (SelE.leaf (lk 0 rfl rfl) rfl (.refl _) (fun m => (TyOk.bool.lt _ _)) .nil) .nil) (.tmp (lk 0 rfl rfl) rfl) rfl rfl
  · skip
    refine AWp.skip ?_
    refine thenQ_n ?_
    refine AWp.seq ?_
    refine W.reg [0] rfl ?_
    refine S.eff 15 rfl rfl (.nf (v2 := .ptr 1 [] 0) (H2 := [.dead, .cells (E_A16_TField (default : Vector TField 16))]) (.allocZ zv81 (.trans (.arr (rsubL_rep (.st (.cons (.refl _) (.cons (.refl _) (.cons (.refl _) (.cons (.refl _) (.cons (.refl _) (.cons (.nils_no _) .nil))))))) _)) (.eq rfl))) rfl rfl) trivial ?_
    refine S.nil ?_
    refine thenQ_n ?_
    refine AWp.seq ?_
    refine AWp.seq ?_
    refine W.reg [0] rfl ?_
    refine S.sil 69 rfl rfl (fun _ hF => .move cI) ?_
    refine S.nil ?_
    refine thenQ_n ?_
    refine AWp.cutX (fun x13 => ⟨[(15, .ptr 0 [] 0), (14, (V.int .i64) r7.2), (12, V.bool false), (3, .sl 5 .no (List.map E_Tusufructlaw07_Do a4)), (4, (V.int .i64) a5), (5, (V.int .i64) a6)], [.cells (E_A16_TField x13)]⟩) nc_then h (fun q11 hq11 => ?_) (fun x13 h => ?_)
    · refine AWp.block ?_
      refine AWp.loopT (fun s12 => ⟨[(69, (V.int .i64) s12.1), (15, .ptr 0 [] 0), (14, (V.int .i64) r7.2), (13, .cptr (E_TField r7.1)), (12, V.bool false), (3, .sl 5 .no (List.map E_Tusufructlaw07_Do a4)), (4, (V.int .i64) a5), (5, (V.int .i64) a6)], [.cells (E_A16_TField s12.2)]⟩) hq11 (Wk.selS [1] (by decide) rfl (SelE.leaf (lk 0 rfl rfl) rfl (.refl _) (fun m => ((TyOk.int .i64).lt _ _)) (SelE.spec (lk 1 rfl rfl) rfl (.refl _) rfl rfl (SelE.leaf (lk 3 rfl rfl) rfl (.refl _) (fun m => ((TyOk.int .i64).lt _ _)) (SelE.leaf (lk 4 rfl rfl) rfl (.refl _) (fun m => (lt_cptr (ty_TField.lt _ _))) (SelE.leaf (lk 5 rfl rfl) rfl (.refl _) (fun m => (TyOk.bool.lt _ _)) (SelE.leaf (lk 6 rfl rfl) rfl (.refl _) (fun m => (lt_sl rfl (ty_Tusufructlaw07_Do.ltm _ _))) (SelE.leaf (lk 7 rfl rfl) rfl (.refl _) (fun m => ((TyOk.int .i64).lt _ _)) (SelE.leaf (lk 8 rfl rfl) rfl (.refl _) (fun m => ((TyOk.int .i64).lt _ _)) .nil)))))))) (.cons (lt_cells (ty_A16_TField.lt _ _)) rfl (RSub.trans (.refl _) (.eq (ty_A16_TField.cl _ _).symm)) .nil)) (fun _ s12 h11 => ?_)
      rw [usufructlaw07_FieldLoose_L1] at h11
      refine AWp.seq ?_
      refine W.reg [0] rfl ?_
      refine S.sil 70 rfl rfl (fun _ hF => .lss (lk 0 rfl rfl) cI) ?_
      refine S.nil ?_
      refine thenQ_n ?_
      refine AWp.seq ?_
      refine AWp.condM (lk 0 rfl rfl) h11 (fun c2 h11 => ?_) (fun c2 h11 => ?_)
      · skip
        refine AWp.skip ?_
        refine thenQ_n ?_
        refine AWp.seq ?_
        refine AWp.block ?_
        refine AWp.seq ?_
        refine W.reg [0, 1] rfl ?_
        refine S.sil 71 rfl rfl (fun _ hF => .move (lk 1 rfl rfl)) ?_
        refine S.sil 16 rfl rfl (fun _ hF => .assign (lk 0 rfl rfl)) ?_
        refine S.nil ?_
        refine thenQ_n ?_
        refine W.reg [0, 1, 2, 3] rfl ?_
        refine S.sil 72 rfl rfl (fun _ hF => .move (lk 0 rfl rfl)) ?_
        refine S.sil 73 rfl rfl (fun _ hF => .loadC sz42 ag42 (lk 7 rfl rfl) (ty_TField.fl r7.1) rfl) ?_
        obtain ⟨k14, m14, h11⟩ := h11.bnd
        refine S.sil 74 rfl rfl (fun _ hF => .ixP arr81 (lk 6 rfl rfl) (lk 1 rfl rfl) m14) ?_
        obtain ⟨v15, ev15, h11⟩ := h11.nam
        refine S.effN rfl rfl (.nf (H2 := [.cells (E_A16_TField v15)]) (.storeP sz42 (lk 0 rfl rfl) (lk 1 rfl rfl) rfl (.refl _) rfl (.vc k14 .nil) (by first | rfl | omega) (.vc r7.1 k14 .nil) (ty_TField.fl r7.1) (ty_TField.fl (s12.2.get k14)) (congrArg (fun z => ([AObj.cells (E_A16_TField z)] : List AObj)) ev15.symm)) rfl rfl) trivial ?_
        refine S.nil ?_
        refine blockQ_n ?_
        refine thenQ_n ?_
        refine W.reg [0, 1] rfl ?_
        refine S.sil 75 rfl rfl (fun _ hF => .add (lk 6 rfl rfl) cI) ?_
        refine S.sil 69 rfl rfl (fun _ hF => .move (lk 0 rfl rfl)) ?_
        refine S.nil ?_
        refine thenQ_n ?_
        exact ⟨_, h11.ret, (Wk.selS [0] (by decide) rfl (SelE.leaf (lk 0 rfl rfl) rfl (.refl _) (fun m => ((TyOk.int .i64).lt _ _)) (SelE.spec (lk 9 rfl rfl) rfl (.refl _) rfl rfl (SelE.leaf (lk 10 rfl rfl) rfl (.refl _) (fun m => ((TyOk.int .i64).lt _ _)) (SelE.leaf (lk 11 rfl rfl) rfl (.refl _) (fun m => (lt_cptr (ty_TField.lt _ _))) (SelE.leaf (lk 12 rfl rfl) rfl (.refl _) (fun m => (TyOk.bool.lt _ _)) (SelE.leaf (lk 13 rfl rfl) rfl (.refl _) (fun m => (lt_sl rfl (ty_Tusufructlaw07_Do.ltm _ _))) (SelE.leaf (lk 14 rfl rfl) rfl (.refl _) (fun m => ((TyOk.int .i64).lt _ _)) (SelE.leaf (lk 15 rfl rfl) rfl (.refl _) (fun m => ((TyOk.int .i64).lt _ _)) .nil)))))))) (.cons (lt_cells (ty_A16_TField.lt _ _)) rfl (RSub.trans (.refl _) (.eq (ty_A16_TField.cl _ _).symm)) .nil))⟩
      · skip
        refine AWp.exit ?_
        refine thenQ_x ?_
        refine thenQ_x ?_
        refine blockQ_x ?_
        refine thenQ_n ?_
        exact ⟨_, h11.ret, (Wk.selS [0] (by decide) rfl (SelE.spec (lk 2 rfl rfl) rfl (.refl _) rfl rfl (SelE.leaf (lk 3 rfl rfl) rfl (.refl _) (fun m => ((TyOk.int .i64).lt _ _)) (SelE.leaf (lk 5 rfl rfl) rfl (.refl _) (fun m => (TyOk.bool.lt _ _)) (SelE.leaf (lk 6 rfl rfl) rfl (.refl _) (fun m => (lt_sl rfl (ty_Tusufructlaw07_Do.ltm _ _))) (SelE.leaf (lk 7 rfl rfl) rfl (.refl _) (fun m => ((TyOk.int .i64).lt _ _)) (SelE.leaf (lk 8 rfl rfl) rfl (.refl _) (fun m => ((TyOk.int .i64).lt _ _)) .nil)))))) (.cons (lt_cells (ty_A16_TField.lt _ _)) rfl (RSub.trans (.refl _) (.eq (ty_A16_TField.cl _ _).symm)) .nil))⟩
    · skip
      refine thenQ_n ?_
      refine AWp.seq ?_
      refine AWp.seq ?_
      refine W.reg [0, 1, 2] rfl ?_
      refine S.sil 76 rfl rfl (fun _ hF => .move (lk 3 rfl rfl)) ?_
      refine S.sil 77 rfl rfl (fun _ hF => .lenT sli79 (lk 0 rfl rfl) (vsub rfl (.refl _))) ?_
      refine S.sil 78 rfl rfl (fun _ hF => .move cI) ?_
      refine S.nil ?_
      refine thenQ_n ?_
      refine AWp.cutL (fun x18 => ⟨[(15, .ptr 0 [] 0), (14, (V.int .i64) r7.2), (12, V.bool false), (4, (V.int .i64) a5), (5, (V.int .i64) a6)], [.cells (E_A16_TField x18)]⟩) nc_then h (fun q16 hq16 h => ?_) (fun x18 h => ?_)
      · refine AWp.block ?_
        refine AWp.loopT (fun s17 => ⟨[(78, (V.int .i64) s17.1), (77, (V.int .i64) (a4.length : Int)), (76, .sl 5 .no (List.map E_Tusufructlaw07_Do a4)), (15, .ptr 0 [] 0), (14, (V.int .i64) r7.2), (12, V.bool false), (4, (V.int .i64) a5), (5, (V.int .i64) a6)], [.cells (E_A16_TField s17.2)]⟩) hq16 (Wk.selS [0] (by decide) rfl (SelE.leaf (lk 0 rfl rfl) rfl (.refl _) (fun m => ((TyOk.int .i64).lt _ _)) (SelE.leaf (lk 1 rfl rfl) rfl (.refl _) (fun m => ((TyOk.int .i64).lt _ _)) (SelE.leaf (lk 2 rfl rfl) rfl (.refl _) (fun m => (lt_sl rfl (ty_Tusufructlaw07_Do.ltm _ _))) (SelE.spec (lk 3 rfl rfl) rfl (.refl _) rfl rfl (SelE.leaf (lk 4 rfl rfl) rfl (.refl _) (fun m => ((TyOk.int .i64).lt _ _)) (SelE.leaf (lk 5 rfl rfl) rfl (.refl _) (fun m => (TyOk.bool.lt _ _)) (SelE.leaf (lk 7 rfl rfl) rfl (.refl _) (fun m => ((TyOk.int .i64).lt _ _)) (SelE.leaf (lk 8 rfl rfl) rfl (.refl _) (fun m => ((TyOk.int .i64).lt _ _)) .nil)))))))) (.cons (lt_cells (ty_A16_TField.lt _ _)) rfl (RSub.trans (.refl _) (.eq (ty_A16_TField.cl _ _).symm)) .nil)) (fun _ s17 h16 => ?_)
        rw [usufructlaw07_FieldLoose_L2] at h16
        refine AWp.seq ?_
        refine W.reg [0] rfl ?_
        refine S.sil 79 rfl rfl (fun _ hF => .lss (lk 0 rfl rfl) (lk 1 rfl rfl)) ?_
        refine S.nil ?_
        refine thenQ_n ?_
        refine AWp.seq ?_
        refine AWp.condM (lk 0 rfl rfl) h16 (fun c3 h16 => ?_) (fun c3 h16 => ?_)
        · skip
          refine AWp.skip ?_
          refine thenQ_n ?_
          refine AWp.seq ?_
          refine AWp.block ?_
          refine AWp.seq ?_
          refine W.reg [0, 1, 2, 3] rfl ?_
          obtain ⟨j19, m19, h16⟩ := h16.bnd
          refine S.sil 80 rfl rfl (fun _ hF => .ixS sli79 (lk 3 rfl rfl) (lk 1 rfl rfl) m19) ?_
          obtain ⟨v20, ev20, h16⟩ := h16.nam
          refine S.sil 81 rfl rfl (fun _ hF => .nv (.loadC sz83 ag83 (lk 0 rfl rfl) (ty_Tusufructlaw07_Do.fl (a4.getD j19 default)) rfl) (congrArg E_Tusufructlaw07_Do ev20.symm)) ?_
          refine S.eff 18 rfl rfl (.nf (v2 := .ptr 1 [] 0) (H2 := [.cells (E_A16_TField s17.2), .cells (E_Tusufructlaw07_Do (default : Tusufructlaw07_Do))]) (.alloc zv83) rfl rfl) trivial ?_
          refine S.effN rfl rfl (.nf (H2 := [.cells (E_A16_TField s17.2), .cells (E_Tusufructlaw07_Do v20)]) (.storeP sz83 (lk 0 rfl rfl) (lk 1 rfl rfl) rfl (.refl _) rfl .nil (by first | rfl | omega) .nil (ty_Tusufructlaw07_Do.fl v20) (ty_Tusufructlaw07_Do.fl (default : Tusufructlaw07_Do)) rfl) rfl rfl) trivial ?_
          refine S.nil ?_
          refine thenQ_n ?_
          refine AWp.wk (Wk.freeze 1 rfl rfl (.cons (lk 0 rfl rfl) rfl (.ptr .nil (by first | rfl | omega)) (.same (lk 1 rfl rfl) (.same (lk 2 rfl rfl) (.same (lk 3 rfl rfl) (.same (lk 4 rfl rfl) (.same (lk 5 rfl rfl) (.same (lk 6 rfl rfl) (.same (lk 7 rfl rfl) (.same (lk 8 rfl rfl) (.same (lk 9 rfl rfl) (.same (lk 10 rfl rfl) (.same (lk 11 rfl rfl) .nil)))))))))))) (.refl _)) ?_
          refine AWp.seq ?_
          refine AWp.seq ?_
          refine W.reg [0, 1, 2, 3, 4, 5, 6, 7, 8, 9, 10, 11, 12, 13, 14, 15, 16, 17, 18] rfl ?_
          refine S.sil 82 rfl rfl (fun _ hF => .fieldAddrC lay83 rfl rfl (lk 0 rfl rfl) rfl (flL_c (show flen _ = 1 from rfl) (flL_c (show flen _ = 1 from rfl) (flL_c (show flen _ = 1 from rfl) flL_nil)))) ?_
          refine S.sil 83 rfl rfl (fun _ hF => .loadC sz3 ag3 (lk 0 rfl rfl) rfl rfl) ?_
          refine S.sil 84 rfl rfl (fun _ hF => .leq (lk 0 rfl rfl) cI) ?_
          refine S.sil 85 rfl rfl (fun _ hF => .move (lk 0 rfl rfl)) ?_
          refine S.gsil 86 3 85 true rfl rfl rfl (lk 0 rfl rfl) (fun hB _ hF => .fieldAddrC lay83 rfl rfl (lk 4 rfl rfl) rfl (flL_c (show flen _ = 1 from rfl) (flL_c (show flen _ = 1 from rfl) (flL_c (show flen _ = 1 from rfl) (flL_c (show flen _ = 1 from rfl) flL_nil))))) ?_
          refine S.gsil 87 3 85 true rfl rfl rfl (lk 1 rfl rfl) (fun hB _ hF => .loadC sz3 ag3 (ifT hB (lk 0 rfl rfl)) rfl rfl) ?_
          refine S.gsil 88 3 85 true rfl rfl rfl (lk 2 rfl rfl) (fun hB _ hF => .leq (ifT hB (lk 0 rfl rfl)) cI) ?_
          refine S.sil 89 rfl rfl (fun _ hF => .pickAnd (lk 3 rfl rfl) (fun h => ifT h (lk 0 rfl rfl)) cB) ?_
          refine S.sil 90 rfl rfl (fun _ hF => .move (lk 0 rfl rfl)) ?_
          refine S.gsil 91 8 90 true rfl rfl rfl (lk 0 rfl rfl) (fun hB _ hF => .fieldAddrC lay83 rfl rfl (lk 9 rfl rfl) rfl (flL_c (show flen _ = 1 from rfl) (flL_c (show flen _ = 1 from rfl) (flL_c (show flen _ = 1 from rfl) flL_nil)))) ?_
          refine S.gsil 92 8 90 true rfl rfl rfl (lk 1 rfl rfl) (fun hB _ hF => .loadC sz3 ag3 (ifT hB (lk 0 rfl rfl)) rfl rfl) ?_
          refine S.gsil 93 8 90 true rfl rfl rfl (lk 2 rfl rfl) (fun hB _ hF => .geq (ifT hB (lk 0 rfl rfl)) cI) ?_
          obtain ⟨v21, ev21, h16⟩ := h16.nam
          refine S.sil 94 rfl rfl (fun _ hF => .nv (.pickAnd (lk 3 rfl rfl) (fun h => ifT h (lk 0 rfl rfl)) cB) (congrArg V.bool ev21.symm)) ?_
          refine S.sil 95 rfl rfl (fun _ hF => .move (lk 0 rfl rfl)) ?_
          refine S.gsil 96 13 95 true rfl rfl rfl (lk 0 rfl rfl) (fun hB _ hF => .fieldAddrC lay83 rfl rfl (lk 14 rfl rfl) rfl (flL_c (show flen _ = 1 from rfl) (flL_c (show flen _ = 1 from rfl) (flL_c (show flen _ = 1 from rfl) (flL_c (show flen _ = 1 from rfl) flL_nil))))) ?_
          refine S.gsil 97 13 95 true rfl rfl rfl (lk 1 rfl rfl) (fun hB _ hF => .loadC sz3 ag3 (ifT hB (lk 0 rfl rfl)) rfl rfl) ?_
          refine S.gsil 98 13 95 true rfl rfl rfl (lk 2 rfl rfl) (fun hB _ hF => .geq (ifT hB (lk 0 rfl rfl)) cI) ?_
          refine S.sil 99 rfl rfl (fun _ hF => .pickAnd (lk 3 rfl rfl) (fun h => ifT h (lk 0 rfl rfl)) cB) ?_
          refine S.sil 100 rfl rfl (fun _ hF => .not (lk 0 rfl rfl)) ?_
          refine S.nil ?_
          refine thenQ_n ?_
          refine AWp.condM (lk 0 rfl rfl) h16 (fun c4 h16 => ?_) (fun c4 h16 => ?_)
          · skip
            refine AWp.seq ?_
            refine W.reg [0, 1] rfl ?_
            obtain ⟨r22, m22, h16⟩ := h16.bnd
            refine S.sil 101 rfl rfl (fun _ hF => .callQ ent21 cF .nil (C_usufructlaw07_awake m22)) ?_
            refine S.sil 12 rfl rfl (fun _ hF => .assign (lk 0 rfl rfl)) ?_
            refine S.nil ?_
            refine thenQ_n ?_
            refine AWp.prune (.eq (lk 0 rfl rfl) rfl (.eq (lk 1 rfl rfl) rfl (.eq (lk 2 rfl rfl) rfl (.eq (lk 3 rfl rfl) rfl (.eq (lk 7 rfl rfl) rfl (.eq (lk 8 rfl rfl) rfl (.eq (lk 12 rfl rfl) rfl (.eq (lk 13 rfl rfl) rfl (.eq (lk 17 rfl rfl) rfl (.eq (lk 18 rfl rfl) rfl (.eq (lk 19 rfl rfl) rfl (.eq (lk 20 rfl rfl) rfl (.eq (lk 21 rfl rfl) rfl (.eq (lk 22 rfl rfl) rfl (.eq (lk 23 rfl rfl) rfl (.eq (lk 24 rfl rfl) rfl (.eq (lk 25 rfl rfl) rfl (.eq (lk 26 rfl rfl) rfl (.eq (lk 27 rfl rfl) rfl (.eq (lk 28 rfl rfl) rfl (.eq (lk 29 rfl rfl) rfl (.eq (lk 31 rfl rfl) rfl (.eq (lk 32 rfl rfl) rfl .nil))))))))))))))))))))))) ?_
            refine AWp.ret ?_
            refine thenQ_r ?_
            refine blockQ_r ?_
            refine thenQ_r ?_
            refine thenQ_r ?_
            refine blockQ_r ?_
            refine thenQ_r ?_
            refine thenQ_r ?_
            have h := Ok.inrq h h16.ret
            obtain rfl := h.ret
            exact endF1 rfl (Wk.selS [] .nil rfl (SelE.leaf (lk 0 rfl rfl) rfl (.refl _) (fun m => (TyOk.bool.lt _ _)) .nil) .nil) (.tmp (lk 0 rfl rfl) rfl) rfl rfl
          · skip
            refine AWp.skip ?_
            refine thenQ_n ?_
            refine W.reg [0, 1] rfl ?_
            refine S.sil 102 rfl rfl (fun _ hF => .loadC sz83 ag83 (lk 19 rfl rfl) (ty_Tusufructlaw07_Do.fl v20) rfl) ?_
            obtain ⟨r23, m23, h16⟩ := h16.bnd
            refine S.eff 103 rfl rfl (.nf (v2 := (V.int .i64) r23.1) (H2 := [.cells (E_A16_TField r23.2), .dead]) (.callH ent45 cF [0] (C_usufructlaw07_Step m23) (by decide) (.cons (lt_cells (ty_A16_TField.lt _ _)) rfl (RSub.trans (.refl _) (.eq (ty_A16_TField.cl _ _).symm)) .nil) (ltL_c rfl (ltL_c (ty_Tusufructlaw07_Do.lt _ _) ltL_nil)) (.c (lk 27 rfl rfl) (subren rfl) (.c (lk 0 rfl rfl) (vsubr (V.sub.refl _) (ty_Tusufructlaw07_Do.lt _ _)) .nil)) ((TyOk.int .i64).cl _ _) (mapc (ren_cells (ty_A16_TField.cl _ _)) rfl) rfl) rfl rfl) trivial ?_
            refine S.nil ?_
            refine blockQ_n ?_
            refine thenQ_n ?_
            refine AWp.prune (.eq (lk 1 rfl rfl) rfl (.eq (lk 2 rfl rfl) rfl (.eq (lk 3 rfl rfl) rfl (.eq (lk 7 rfl rfl) rfl (.eq (lk 8 rfl rfl) rfl (.eq (lk 12 rfl rfl) rfl (.eq (lk 13 rfl rfl) rfl (.eq (lk 17 rfl rfl) rfl (.eq (lk 18 rfl rfl) rfl (.eq (lk 19 rfl rfl) rfl (.eq (lk 20 rfl rfl) rfl (.eq (lk 21 rfl rfl) rfl (.eq (lk 22 rfl rfl) rfl (.eq (lk 23 rfl rfl) rfl (.eq (lk 24 rfl rfl) rfl (.eq (lk 25 rfl rfl) rfl (.eq (lk 26 rfl rfl) rfl (.eq (lk 27 rfl rfl) rfl (.eq (lk 28 rfl rfl) rfl (.eq (lk 29 rfl rfl) rfl (.eq (lk 30 rfl rfl) rfl (.eq (lk 31 rfl rfl) rfl (.eq (lk 32 rfl rfl) rfl .nil))))))))))))))))))))))) ?_
            refine W.reg [0, 1] rfl ?_
            refine S.sil 104 rfl rfl (fun _ hF => .add (lk 15 rfl rfl) cI) ?_
            refine S.sil 78 rfl rfl (fun _ hF => .move (lk 0 rfl rfl)) ?_
            refine S.nil ?_
            refine thenQ_n ?_
            exact ⟨_, h16.ret, (Wk.selS [0] (by decide) rfl (SelE.leaf (lk 0 rfl rfl) rfl (.refl _) (fun m => ((TyOk.int .i64).lt _ _)) (SelE.leaf (lk 18 rfl rfl) rfl (.refl _) (fun m => ((TyOk.int .i64).lt _ _)) (SelE.leaf (lk 19 rfl rfl) rfl (.refl _) (fun m => (lt_sl rfl (ty_Tusufructlaw07_Do.ltm _ _))) (SelE.spec (lk 20 rfl rfl) rfl (.refl _) rfl rfl (SelE.leaf (lk 21 rfl rfl) rfl (.refl _) (fun m => ((TyOk.int .i64).lt _ _)) (SelE.leaf (lk 22 rfl rfl) rfl (.refl _) (fun m => (TyOk.bool.lt _ _)) (SelE.leaf (lk 23 rfl rfl) rfl (.refl _) (fun m => ((TyOk.int .i64).lt _ _)) (SelE.leaf (lk 24 rfl rfl) rfl (.refl _) (fun m => ((TyOk.int .i64).lt _ _)) .nil)))))))) (.cons (lt_cells (ty_A16_TField.lt _ _)) rfl (RSub.trans (.refl _) (.eq (ty_A16_TField.cl _ _).symm)) .nil))⟩
        · skip
          refine AWp.exit ?_
          refine thenQ_x ?_
          refine thenQ_x ?_
          refine blockQ_x ?_
          refine thenQ_n ?_
          exact ⟨_, h16.ret, (Wk.selS [0] (by decide) rfl (SelE.spec (lk 4 rfl rfl) rfl (.refl _) rfl rfl (SelE.leaf (lk 5 rfl rfl) rfl (.refl _) (fun m => ((TyOk.int .i64).lt _ _)) (SelE.leaf (lk 6 rfl rfl) rfl (.refl _) (fun m => (TyOk.bool.lt _ _)) (SelE.leaf (lk 7 rfl rfl) rfl (.refl _) (fun m => ((TyOk.int .i64).lt _ _)) (SelE.leaf (lk 8 rfl rfl) rfl (.refl _) (fun m => ((TyOk.int .i64).lt _ _)) .nil))))) (.cons (lt_cells (ty_A16_TField.lt _ _)) rfl (RSub.trans (.refl _) (.eq (ty_A16_TField.cl _ _).symm)) .nil))⟩
      · skip
        refine thenQ_n ?_
        refine AWp.seq ?_
        refine W.reg [0, 1, 2, 3, 4] rfl ?_
        refine S.sil 105 rfl rfl (fun _ hF => .move (lk 3 rfl rfl)) ?_
        obtain ⟨k24, m24, h⟩ := h.bnd
        refine S.sil 106 rfl rfl (fun _ hF => .ixP arr81 (lk 1 rfl rfl) (lk 0 rfl rfl) m24) ?_
        obtain ⟨v25, ev25, h⟩ := h.nam
        refine S.qui 107 rfl rfl (fun _ => .nv (.loadP sz42 ag42 (lk 0 rfl rfl) rfl (.vc k24 .nil) (by first | rfl | omega) (ty_TField.fl (x18.get k24)) rfl) (congrArg E_TField ev25.symm)) ?_
        refine S.eff 19 rfl rfl (.nf (v2 := .ptr 1 [] 0) (H2 := [.cells (E_A16_TField x18), .cells (.st [V.str (default : ByteArray), (V.int .i64) 0, (V.int .i64) 0, E_TCounter (default : TCounter), E_TLock (default : TLock), .nils])]) (.alloc zv42) rfl rfl) trivial ?_
        refine S.effN rfl rfl (.nf (H2 := [.cells (E_A16_TField x18), .cells (E_TField v25)]) (.storeP sz42 (lk 0 rfl rfl) (lk 1 rfl rfl) rfl (.refl _) rfl .nil (by first | rfl | omega) .nil (ty_TField.fl v25) (fl_st (flL_c (show flen _ = 1 from rfl) (flL_c (show flen _ = 1 from rfl) (flL_c (show flen _ = 1 from rfl) (flL_c (ty_TCounter.fl (default : TCounter)) (flL_c (ty_TLock.fl (default : TLock)) (flL_c (show flen _ = 1 from rfl) flL_nil))))))) rfl) rfl rfl) trivial ?_
        refine S.nil ?_
        refine thenQ_n ?_
        refine AWp.wk (Wk.freeze 1 rfl rfl (.cons (lk 0 rfl rfl) rfl (.ptr .nil (by first | rfl | omega)) (.same (lk 5 rfl rfl) (.same (lk 6 rfl rfl) (.same (lk 7 rfl rfl) (.same (lk 8 rfl rfl) .nil))))) (.refl _)) ?_
        refine AWp.seq ?_
        refine W.reg [0, 1, 2, 3, 4, 5, 6, 7] rfl ?_
        refine S.sil 109 rfl rfl (fun _ hF => .loadC sz42 ag42 (lk 0 rfl rfl) (ty_TField.fl v25) rfl) ?_
        refine S.sil 110 rfl rfl (fun _ hF => .move (lk 4 rfl rfl)) ?_
        obtain ⟨r26, m26, h⟩ := h.bnd
        refine S.sil 111 rfl rfl (fun _ hF => .callQ ent46 cF (.c (lk 1 rfl rfl) (V.sub.refl _) (.c (lk 0 rfl rfl) (V.sub.refl _) .nil)) (C_field_Loose m26)) ?_
        refine S.sil 108 rfl rfl (fun _ hF => .move (lk 0 rfl rfl)) ?_
        refine S.sil 112 rfl rfl (fun _ hF => .extract (lk 0 rfl rfl) rfl) ?_
        refine S.sil 113 rfl rfl (fun _ hF => .extract (lk 1 rfl rfl) rfl) ?_
        refine S.sil 20 rfl rfl (fun _ hF => .assign (lk 1 rfl rfl)) ?_
        refine S.sil 21 rfl rfl (fun _ hF => .assign (lk 1 rfl rfl)) ?_
        refine S.nil ?_
        refine thenQ_n ?_
        refine AWp.seq ?_
        refine W.reg [0, 1, 2, 3, 4, 5, 6, 7, 8, 9, 10, 11] rfl ?_
        refine S.sil 115 rfl rfl (fun _ hF => .loadC sz42 ag42 (lk 8 rfl rfl) (ty_TField.fl v25) rfl) ?_
        refine S.sil 116 rfl rfl (fun _ hF => .move (lk 12 rfl rfl)) ?_
        refine S.sil 117 rfl rfl (fun _ hF => .move (lk 14 rfl rfl)) ?_
        obtain ⟨r27, m27, h⟩ := h.bnd
        refine S.sil 118 rfl rfl (fun _ hF => .callQ ent47 cF (.c (lk 2 rfl rfl) (V.sub.refl _) (.c (lk 1 rfl rfl) (V.sub.refl _) (.c (lk 0 rfl rfl) (V.sub.refl _) (.c cI (V.sub.refl _) .nil)))) (C_field_Reserve m27)) ?_
        refine S.sil 114 rfl rfl (fun _ hF => .move (lk 0 rfl rfl)) ?_
        refine S.sil 119 rfl rfl (fun _ hF => .extract (lk 0 rfl rfl) rfl) ?_
        refine S.sil 120 rfl rfl (fun _ hF => .extract (lk 1 rfl rfl) rfl) ?_
        refine S.sil 121 rfl rfl (fun _ hF => .extract (lk 2 rfl rfl) rfl) ?_
        refine S.eff 22 rfl rfl (.nf (v2 := .ptr 2 [] 0) (H2 := [.cells (E_A16_TField x18), .dead, .cells (.st [V.str (default : ByteArray), (V.int .i64) 0, (V.int .i64) 0, E_TCounter (default : TCounter), E_TLock (default : TLock), .nils])]) (.alloc zv42) rfl rfl) trivial ?_
        refine S.effN rfl rfl (.nf (H2 := [.cells (E_A16_TField x18), .dead, .cells (E_TField r27.1)]) (.storeP sz42 (lk 0 rfl rfl) (lk 3 rfl rfl) rfl (.refl _) rfl .nil (by first | rfl | omega) .nil (ty_TField.fl r27.1) (fl_st (flL_c (show flen _ = 1 from rfl) (flL_c (show flen _ = 1 from rfl) (flL_c (show flen _ = 1 from rfl) (flL_c (ty_TCounter.fl (default : TCounter)) (flL_c (ty_TLock.fl (default : TLock)) (flL_c (show flen _ = 1 from rfl) flL_nil))))))) rfl) rfl rfl) trivial ?_
        refine S.sil 23 rfl rfl (fun _ hF => .assign (lk 2 rfl rfl)) ?_
        refine S.sil 14 rfl rfl (fun _ hF => .assign (lk 2 rfl rfl)) ?_
        refine S.nil ?_
        refine thenQ_n ?_
        refine AWp.wk (Wk.freeze 2 rfl rfl (.same (lk 0 rfl rfl) (.same (lk 1 rfl rfl) (.cons (lk 2 rfl rfl) rfl (.ptr .nil (by first | rfl | omega)) (.same (lk 11 rfl rfl) (.same (lk 12 rfl rfl) (.same (lk 19 rfl rfl) (.same (lk 21 rfl rfl) (.same (lk 22 rfl rfl) (.same (lk 23 rfl rfl) .nil))))))))) (.refl _)) ?_
        refine AWp.seq ?_
        refine AWp.seq ?_
        refine W.reg [0, 1] rfl ?_
        refine S.sil 122 rfl rfl (fun _ hF => .move (lk 0 rfl rfl)) ?_
        refine S.sil 123 rfl rfl (fun _ hF => .neq (lk 0 rfl rfl) cI) ?_
        refine S.nil ?_
        refine thenQ_n ?_
        refine AWp.condM (lk 0 rfl rfl) h (fun c5 h => ?_) (fun c5 h => ?_)
        · skip
          refine AWp.seq ?_
          refine W.reg [0, 1, 2, 3, 4, 5, 6, 7, 8, 9, 10, 11, 12, 13, 14, 15, 16] rfl ?_
          refine S.sil 124 rfl rfl (fun _ hF => .move (lk 10 rfl rfl)) ?_
          refine S.sil 125 rfl rfl (fun _ hF => .lss (lk 0 rfl rfl) cI) ?_
          refine S.sil 126 rfl rfl (fun _ hF => .move (lk 0 rfl rfl)) ?_
          refine S.gsil 127 2 126 false rfl rfl rfl (lk 0 rfl rfl) (fun hB _ hF => .move (lk 13 rfl rfl)) ?_
          refine S.gsil 128 2 126 false rfl rfl rfl (lk 1 rfl rfl) (fun hB _ hF => .move (lk 10 rfl rfl)) ?_
          refine S.gsil 129 2 126 false rfl rfl rfl (lk 2 rfl rfl) (fun hB _ hF => .gtr (ifT hB (lk 1 rfl rfl)) (ifT hB (lk 0 rfl rfl))) ?_
          refine S.sil 130 rfl rfl (fun _ hF => .pickOr (lk 3 rfl rfl) cB (fun h => ifT h (lk 0 rfl rfl))) ?_
          refine S.sil 131 rfl rfl (fun _ hF => .move (lk 0 rfl rfl)) ?_
          refine S.gsil 132 7 131 false rfl rfl rfl (lk 0 rfl rfl) (fun hB _ hF => .fieldAddrC lay42 rfl rfl (lk 15 rfl rfl) rfl (flL_c (show flen _ = 1 from rfl) (flL_c (show flen _ = 1 from rfl) (flL_c (show flen _ = 1 from rfl) (flL_c (ty_TCounter.fl v25.Counter) (flL_c (ty_TLock.fl v25.Lock) flL_nil)))))) ?_
          refine S.gsil 133 7 131 false rfl rfl rfl (lk 1 rfl rfl) (fun hB _ hF => .loadC sz40 ag40 (ifT hB (lk 0 rfl rfl)) rfl rfl) ?_
          refine S.gsil 134 7 131 false rfl rfl rfl (lk 2 rfl rfl) (fun hB _ hF => .lenT sli40 (ifT hB (lk 0 rfl rfl)) (vsub rfl (.refl _))) ?_
          refine S.gsil 135 7 131 false rfl rfl rfl (lk 3 rfl rfl) (fun hB _ hF => .eql (ifT hB (lk 0 rfl rfl)) cI) ?_
          obtain ⟨v28, ev28, h⟩ := h.nam
          refine S.sil 136 rfl rfl (fun _ hF => .nv (.pickOr (lk 4 rfl rfl) cB (fun h => ifT h (lk 0 rfl rfl))) (congrArg V.bool ev28.symm)) ?_
          refine S.sil 137 rfl rfl (fun _ hF => .move (lk 0 rfl rfl)) ?_
          obtain ⟨r29, m29, h⟩ := h.bnd
          refine S.gsil 138 13 137 true rfl rfl rfl (lk 0 rfl rfl) (fun hB _ hF => .callQ ent21 cF .nil (C_usufructlaw07_awake (gd_get m29 hB))) ?_
          refine S.sil 139 rfl rfl (fun _ hF => .pickAnd (lk 1 rfl rfl) (fun h => ifT h (lk 0 rfl rfl)) cB) ?_
          refine S.sil 12 rfl rfl (fun _ hF => .assign (lk 0 rfl rfl)) ?_
          refine S.nil ?_
          refine thenQ_n ?_
          refine AWp.prune (.eq (lk 0 rfl rfl) rfl (.eq (lk 20 rfl rfl) rfl (.eq (lk 21 rfl rfl) rfl (.eq (lk 22 rfl rfl) rfl (.eq (lk 23 rfl rfl) rfl (.eq (lk 24 rfl rfl) rfl (.eq (lk 26 rfl rfl) rfl (.eq (lk 27 rfl rfl) rfl .nil)))))))) ?_
          refine AWp.ret ?_
          refine thenQ_r ?_
          obtain rfl := h.ret
          exact endF1 rfl (Wk.selS [] .nil rfl (SelE.leaf (lk 0 rfl rfl) rfl (.refl _) (fun m => (TyOk.bool.lt _ _)) .nil) .nil) (.tmp (lk 0 rfl rfl) rfl) rfl rfl
        · skip
          refine AWp.skip ?_
          refine thenQ_n ?_
          refine AWp.seq ?_
          refine W.reg [0, 1, 2, 3, 4, 5, 6, 7] rfl ?_
          refine S.sil 141 rfl rfl (fun _ hF => .loadC sz42 ag42 (lk 4 rfl rfl) (ty_TField.fl r27.1) rfl) ?_
          refine S.sil 142 rfl rfl (fun _ hF => .move (lk 10 rfl rfl)) ?_
          obtain ⟨r30, m30, h⟩ := h.bnd
          refine S.sil 143 rfl rfl (fun _ hF => .callQ ent46 cF (.c (lk 1 rfl rfl) (V.sub.refl _) (.c (lk 0 rfl rfl) (V.sub.refl _) .nil)) (C_field_Loose m30)) ?_
          refine S.sil 140 rfl rfl (fun _ hF => .move (lk 0 rfl rfl)) ?_
          refine S.sil 144 rfl rfl (fun _ hF => .extract (lk 0 rfl rfl) rfl) ?_
          refine S.sil 145 rfl rfl (fun _ hF => .extract (lk 1 rfl rfl) rfl) ?_
          refine S.sil 24 rfl rfl (fun _ hF => .assign (lk 1 rfl rfl)) ?_
          refine S.sil 25 rfl rfl (fun _ hF => .assign (lk 1 rfl rfl)) ?_
          refine S.nil ?_
          refine thenQ_n ?_
          refine AWp.seq ?_
          refine W.reg [0, 1, 2, 3, 4, 5, 6, 7, 8, 9] rfl ?_
          refine S.sil 147 rfl rfl (fun _ hF => .loadC sz42 ag42 (lk 12 rfl rfl) (ty_TField.fl r27.1) rfl) ?_
          refine S.sil 148 rfl rfl (fun _ hF => .move (lk 18 rfl rfl)) ?_
          refine S.sil 149 rfl rfl (fun _ hF => .move (lk 13 rfl rfl)) ?_
          obtain ⟨r31, m31, h⟩ := h.bnd
          refine S.sil 150 rfl rfl (fun _ hF => .callQ ent48 cF (.c (lk 2 rfl rfl) (V.sub.refl _) (.c (lk 1 rfl rfl) (V.sub.refl _) (.c (lk 0 rfl rfl) (V.sub.refl _) (.c cI (V.sub.refl _) .nil)))) (C_field_End m31)) ?_
          refine S.sil 146 rfl rfl (fun _ hF => .move (lk 0 rfl rfl)) ?_
          refine S.sil 151 rfl rfl (fun _ hF => .extract (lk 0 rfl rfl) rfl) ?_
          refine S.sil 152 rfl rfl (fun _ hF => .extract (lk 1 rfl rfl) rfl) ?_
          refine S.eff 26 rfl rfl (.nf (v2 := .ptr 3 [] 0) (H2 := [.cells (E_A16_TField x18), .dead, .dead, .cells (.st [V.str (default : ByteArray), (V.int .i64) 0, (V.int .i64) 0, E_TCounter (default : TCounter), E_TLock (default : TLock), .nils])]) (.alloc zv42) rfl rfl) trivial ?_
          refine S.effN rfl rfl (.nf (H2 := [.cells (E_A16_TField x18), .dead, .dead, .cells (E_TField r31.1)]) (.storeP sz42 (lk 0 rfl rfl) (lk 2 rfl rfl) rfl (.refl _) rfl .nil (by first | rfl | omega) .nil (ty_TField.fl r31.1) (fl_st (flL_c (show flen _ = 1 from rfl) (flL_c (show flen _ = 1 from rfl) (flL_c (show flen _ = 1 from rfl) (flL_c (ty_TCounter.fl (default : TCounter)) (flL_c (ty_TLock.fl (default : TLock)) (flL_c (show flen _ = 1 from rfl) flL_nil))))))) rfl) rfl rfl) trivial ?_
          refine S.sil 27 rfl rfl (fun _ hF => .assign (lk 1 rfl rfl)) ?_
          refine S.nil ?_
          refine thenQ_n ?_
          refine AWp.wk (Wk.freeze 3 rfl rfl (.same (lk 0 rfl rfl) (.cons (lk 1 rfl rfl) rfl (.ptr .nil (by first | rfl | omega)) (.same (lk 9 rfl rfl) (.same (lk 10 rfl rfl) (.same (lk 20 rfl rfl) (.same (lk 21 rfl rfl) (.same (lk 22 rfl rfl) (.same (lk 23 rfl rfl) (.same (lk 24 rfl rfl) (.same (lk 25 rfl rfl) (.same (lk 26 rfl rfl) (.same (lk 27 rfl rfl) .nil)))))))))))) (.refl _)) ?_
          refine AWp.seq ?_
          refine W.reg [0, 1, 2, 3, 4, 5, 6, 7, 8, 9] rfl ?_
          refine S.sil 154 rfl rfl (fun _ hF => .loadC sz42 ag42 (lk 5 rfl rfl) (ty_TField.fl r27.1) rfl) ?_
          refine S.sil 155 rfl rfl (fun _ hF => .move (lk 11 rfl rfl)) ?_
          refine S.sil 156 rfl rfl (fun _ hF => .move (lk 6 rfl rfl)) ?_
          obtain ⟨r32, m32, h⟩ := h.bnd
          refine S.sil 157 rfl rfl (fun _ hF => .callQ ent48 cF (.c (lk 2 rfl rfl) (V.sub.refl _) (.c (lk 1 rfl rfl) (V.sub.refl _) (.c (lk 0 rfl rfl) (V.sub.refl _) (.c cI (V.sub.refl _) .nil)))) (C_field_End m32)) ?_
          refine S.sil 153 rfl rfl (fun _ hF => .move (lk 0 rfl rfl)) ?_
          refine S.sil 158 rfl rfl (fun _ hF => .extract (lk 0 rfl rfl) rfl) ?_
          refine S.sil 159 rfl rfl (fun _ hF => .extract (lk 1 rfl rfl) rfl) ?_
          refine S.eff 28 rfl rfl (.nf (v2 := .ptr 4 [] 0) (H2 := [.cells (E_A16_TField x18), .dead, .dead, .dead, .cells (.st [V.str (default : ByteArray), (V.int .i64) 0, (V.int .i64) 0, E_TCounter (default : TCounter), E_TLock (default : TLock), .nils])]) (.alloc zv42) rfl rfl) trivial ?_
          refine S.effN rfl rfl (.nf (H2 := [.cells (E_A16_TField x18), .dead, .dead, .dead, .cells (E_TField r32.1)]) (.storeP sz42 (lk 0 rfl rfl) (lk 2 rfl rfl) rfl (.refl _) rfl .nil (by first | rfl | omega) .nil (ty_TField.fl r32.1) (fl_st (flL_c (show flen _ = 1 from rfl) (flL_c (show flen _ = 1 from rfl) (flL_c (show flen _ = 1 from rfl) (flL_c (ty_TCounter.fl (default : TCounter)) (flL_c (ty_TLock.fl (default : TLock)) (flL_c (show flen _ = 1 from rfl) flL_nil))))))) rfl) rfl rfl) trivial ?_
          refine S.sil 29 rfl rfl (fun _ hF => .assign (lk 1 rfl rfl)) ?_
          refine S.nil ?_
          refine thenQ_n ?_
          refine AWp.wk (Wk.freeze 4 rfl rfl (.same (lk 0 rfl rfl) (.cons (lk 1 rfl rfl) rfl (.ptr .nil (by first | rfl | omega)) (.same (lk 9 rfl rfl) (.same (lk 10 rfl rfl) (.same (lk 11 rfl rfl) (.same (lk 12 rfl rfl) (.same (lk 15 rfl rfl) (.same (lk 16 rfl rfl) (.same (lk 17 rfl rfl) (.same (lk 18 rfl rfl) (.same (lk 19 rfl rfl) (.same (lk 20 rfl rfl) .nil)))))))))))) (.refl _)) ?_
          refine AWp.seq ?_
          refine W.reg [0, 1, 2, 3, 4, 5, 6, 7] rfl ?_
          refine S.sil 161 rfl rfl (fun _ hF => .loadC sz42 ag42 (lk 3 rfl rfl) (ty_TField.fl r31.1) rfl) ?_
          refine S.sil 162 rfl rfl (fun _ hF => .move (lk 11 rfl rfl)) ?_
          obtain ⟨r33, m33, h⟩ := h.bnd
          refine S.sil 163 rfl rfl (fun _ hF => .callQ ent46 cF (.c (lk 1 rfl rfl) (V.sub.refl _) (.c (lk 0 rfl rfl) (V.sub.refl _) .nil)) (C_field_Loose m33)) ?_
          refine S.sil 160 rfl rfl (fun _ hF => .move (lk 0 rfl rfl)) ?_
          refine S.sil 164 rfl rfl (fun _ hF => .extract (lk 0 rfl rfl) rfl) ?_
          refine S.sil 165 rfl rfl (fun _ hF => .extract (lk 1 rfl rfl) rfl) ?_
          refine S.sil 30 rfl rfl (fun _ hF => .assign (lk 1 rfl rfl)) ?_
          refine S.sil 31 rfl rfl (fun _ hF => .assign (lk 1 rfl rfl)) ?_
          refine S.nil ?_
          refine thenQ_n ?_
          refine AWp.seq ?_
          refine W.reg [0, 1, 2, 3, 4, 5, 6] rfl ?_
          refine S.sil 167 rfl rfl (fun _ hF => .loadC sz42 ag42 (lk 16 rfl rfl) (ty_TField.fl v25) rfl) ?_
          obtain ⟨r34, m34, h⟩ := h.bnd
          refine S.sil 168 rfl rfl (fun _ hF => .callQ ent49 cF (.c (lk 0 rfl rfl) (V.sub.refl _) .nil) (C_field_View m34)) ?_
          refine S.sil 166 rfl rfl (fun _ hF => .move (lk 0 rfl rfl)) ?_
          refine S.sil 169 rfl rfl (fun _ hF => .extract (lk 0 rfl rfl) rfl) ?_
          refine S.sil 170 rfl rfl (fun _ hF => .extract (lk 1 rfl rfl) rfl) ?_
          refine S.sil 32 rfl rfl (fun _ hF => .assign (lk 1 rfl rfl)) ?_
          refine S.sil 33 rfl rfl (fun _ hF => .assign (lk 1 rfl rfl)) ?_
          refine S.nil ?_
          refine thenQ_n ?_
          refine AWp.prune (.eq (lk 1 rfl rfl) rfl (.eq (lk 8 rfl rfl) rfl (.eq (lk 15 rfl rfl) rfl (.eq (lk 16 rfl rfl) rfl (.eq (lk 17 rfl rfl) rfl (.eq (lk 19 rfl rfl) rfl (.eq (lk 20 rfl rfl) rfl (.eq (lk 21 rfl rfl) rfl (.eq (lk 22 rfl rfl) rfl (.eq (lk 24 rfl rfl) rfl (.eq (lk 25 rfl rfl) rfl (.eq (lk 26 rfl rfl) rfl .nil)))))))))))) ?_
          refine AWp.seq ?_
          refine W.reg [0, 1, 2, 3, 4, 5, 6] rfl ?_
          refine S.sil 172 rfl rfl (fun _ hF => .loadC sz42 ag42 (lk 3 rfl rfl) (ty_TField.fl r32.1) rfl) ?_
          obtain ⟨r35, m35, h⟩ := h.bnd
          refine S.sil 173 rfl rfl (fun _ hF => .callQ ent49 cF (.c (lk 0 rfl rfl) (V.sub.refl _) .nil) (C_field_View m35)) ?_
          refine S.sil 171 rfl rfl (fun _ hF => .move (lk 0 rfl rfl)) ?_
          refine S.sil 174 rfl rfl (fun _ hF => .extract (lk 0 rfl rfl) rfl) ?_
          refine S.sil 175 rfl rfl (fun _ hF => .extract (lk 1 rfl rfl) rfl) ?_
          refine S.sil 34 rfl rfl (fun _ hF => .assign (lk 1 rfl rfl)) ?_
          refine S.sil 35 rfl rfl (fun _ hF => .assign (lk 1 rfl rfl)) ?_
          refine S.nil ?_
          refine thenQ_n ?_
          refine AWp.seq ?_
          refine W.reg [0, 1, 2, 3, 4, 5, 6, 7] rfl ?_
          refine S.sil 177 rfl rfl (fun _ hF => .loadC sz42 ag42 (lk 10 rfl rfl) (ty_TField.fl r32.1) rfl) ?_
          refine S.sil 178 rfl rfl (fun _ hF => .move (lk 18 rfl rfl)) ?_
          obtain ⟨r36, m36, h⟩ := h.bnd
          refine S.sil 179 rfl rfl (fun _ hF => .callQ ent46 cF (.c (lk 1 rfl rfl) (V.sub.refl _) (.c (lk 0 rfl rfl) (V.sub.refl _) .nil)) (C_field_Loose m36)) ?_
          refine S.sil 176 rfl rfl (fun _ hF => .move (lk 0 rfl rfl)) ?_
          refine S.sil 180 rfl rfl (fun _ hF => .extract (lk 0 rfl rfl) rfl) ?_
          refine S.sil 181 rfl rfl (fun _ hF => .extract (lk 1 rfl rfl) rfl) ?_
          refine S.sil 36 rfl rfl (fun _ hF => .assign (lk 1 rfl rfl)) ?_
          refine S.sil 37 rfl rfl (fun _ hF => .assign (lk 1 rfl rfl)) ?_
          refine S.nil ?_
          refine thenQ_n ?_
          refine AWp.prune (.eq (lk 1 rfl rfl) rfl (.eq (lk 9 rfl rfl) rfl (.eq (lk 15 rfl rfl) rfl (.eq (lk 16 rfl rfl) rfl (.eq (lk 17 rfl rfl) rfl (.eq (lk 19 rfl rfl) rfl (.eq (lk 20 rfl rfl) rfl (.eq (lk 21 rfl rfl) rfl (.eq (lk 22 rfl rfl) rfl (.eq (lk 23 rfl rfl) rfl (.eq (lk 24 rfl rfl) rfl (.eq (lk 26 rfl rfl) rfl .nil)))))))))))) ?_
          refine AWp.seq ?_
          refine W.reg [0, 1, 2, 3, 4, 5, 6, 7, 8, 9, 10, 11, 12, 13, 14, 15, 16, 17, 18, 19, 20, 21, 22, 23, 24, 25, 26, 27, 28, 29, 30, 31, 32, 33, 34, 35, 36, 37, 38, 39, 40] rfl ?_
          refine S.sil 182 rfl rfl (fun _ hF => .move (lk 5 rfl rfl)) ?_
          refine S.sil 183 rfl rfl (fun _ hF => .eql (lk 0 rfl rfl) cI) ?_
          refine S.sil 184 rfl rfl (fun _ hF => .move (lk 0 rfl rfl)) ?_
          refine S.gsil 185 2 184 true rfl rfl rfl (lk 0 rfl rfl) (fun hB _ hF => .move (lk 7 rfl rfl)) ?_
          refine S.gsil 186 2 184 true rfl rfl rfl (lk 1 rfl rfl) (fun hB _ hF => .eql (ifT hB (lk 0 rfl rfl)) cI) ?_
          refine S.sil 187 rfl rfl (fun _ hF => .pickAnd (lk 2 rfl rfl) (fun h => ifT h (lk 0 rfl rfl)) cB) ?_
          refine S.sil 188 rfl rfl (fun _ hF => .move (lk 0 rfl rfl)) ?_
          refine S.gsil 189 6 188 true rfl rfl rfl (lk 0 rfl rfl) (fun hB _ hF => .move (lk 14 rfl rfl)) ?_
          refine S.gsil 190 6 188 true rfl rfl rfl (lk 1 rfl rfl) (fun hB _ hF => .move (lk 17 rfl rfl)) ?_
          refine S.gsil 191 6 188 true rfl rfl rfl (lk 2 rfl rfl) (fun hB _ hF => .move (lk 20 rfl rfl)) ?_
          refine S.gsil 192 6 188 true rfl rfl rfl (lk 3 rfl rfl) (fun hB _ hF => .sub (ifT hB (lk 1 rfl rfl)) (ifT hB (lk 0 rfl rfl))) ?_
          refine S.gsil 193 6 188 true rfl rfl rfl (lk 4 rfl rfl) (fun hB _ hF => .eql (ifT hB (lk 3 rfl rfl)) (ifT hB (lk 0 rfl rfl))) ?_
          obtain ⟨v37, ev37, h⟩ := h.nam
          refine S.sil 194 rfl rfl (fun _ hF => .nv (.pickAnd (lk 5 rfl rfl) (fun h => ifT h (lk 0 rfl rfl)) cB) (congrArg V.bool ev37.symm)) ?_
          refine S.sil 195 rfl rfl (fun _ hF => .move (lk 0 rfl rfl)) ?_
          refine S.gsil 196 13 195 true rfl rfl rfl (lk 0 rfl rfl) (fun hB _ hF => .move (lk 20 rfl rfl)) ?_
          refine S.gsil 197 13 195 true rfl rfl rfl (lk 1 rfl rfl) (fun hB _ hF => .move (lk 23 rfl rfl)) ?_
          refine S.gsil 198 13 195 true rfl rfl rfl (lk 2 rfl rfl) (fun hB _ hF => .eql (ifT hB (lk 1 rfl rfl)) (ifT hB (lk 0 rfl rfl))) ?_
          refine S.sil 199 rfl rfl (fun _ hF => .pickAnd (lk 3 rfl rfl) (fun h => ifT h (lk 0 rfl rfl)) cB) ?_
          refine S.sil 200 rfl rfl (fun _ hF => .move (lk 0 rfl rfl)) ?_
          refine S.gsil 201 18 200 true rfl rfl rfl (lk 0 rfl rfl) (fun hB _ hF => .move (lk 22 rfl rfl)) ?_
          refine S.gsil 202 18 200 true rfl rfl rfl (lk 1 rfl rfl) (fun hB _ hF => .move (lk 29 rfl rfl)) ?_
          refine S.gsil 203 18 200 true rfl rfl rfl (lk 2 rfl rfl) (fun hB _ hF => .eql (ifT hB (lk 1 rfl rfl)) (ifT hB (lk 0 rfl rfl))) ?_
          refine S.sil 204 rfl rfl (fun _ hF => .pickAnd (lk 3 rfl rfl) (fun h => ifT h (lk 0 rfl rfl)) cB) ?_
          refine S.sil 205 rfl rfl (fun _ hF => .move (lk 0 rfl rfl)) ?_
          refine S.gsil 206 23 205 true rfl rfl rfl (lk 0 rfl rfl) (fun hB _ hF => .move (lk 25 rfl rfl)) ?_
          refine S.gsil 207 23 205 true rfl rfl rfl (lk 1 rfl rfl) (fun hB _ hF => .move (lk 27 rfl rfl)) ?_
          refine S.gsil 208 23 205 true rfl rfl rfl (lk 2 rfl rfl) (fun hB _ hF => .move (lk 37 rfl rfl)) ?_
          refine S.gsil 209 23 205 true rfl rfl rfl (lk 3 rfl rfl) (fun hB _ hF => .sub (ifT hB (lk 1 rfl rfl)) (ifT hB (lk 0 rfl rfl))) ?_
          refine S.gsil 210 23 205 true rfl rfl rfl (lk 4 rfl rfl) (fun hB _ hF => .eql (ifT hB (lk 3 rfl rfl)) (ifT hB (lk 0 rfl rfl))) ?_
          obtain ⟨v38, ev38, h⟩ := h.nam
          refine S.sil 211 rfl rfl (fun _ hF => .nv (.pickAnd (lk 5 rfl rfl) (fun h => ifT h (lk 0 rfl rfl)) cB) (congrArg V.bool ev38.symm)) ?_
          refine S.sil 212 rfl rfl (fun _ hF => .move (lk 0 rfl rfl)) ?_
          refine S.gsil 213 30 212 true rfl rfl rfl (lk 0 rfl rfl) (fun hB _ hF => .move (lk 31 rfl rfl)) ?_
          refine S.gsil 214 30 212 true rfl rfl rfl (lk 1 rfl rfl) (fun hB _ hF => .move (lk 41 rfl rfl)) ?_
          refine S.gsil 215 30 212 true rfl rfl rfl (lk 2 rfl rfl) (fun hB _ hF => .move (lk 44 rfl rfl)) ?_
          refine S.gsil 216 30 212 true rfl rfl rfl (lk 3 rfl rfl) (fun hB _ hF => .sub (ifT hB (lk 1 rfl rfl)) (ifT hB (lk 0 rfl rfl))) ?_
          refine S.gsil 217 30 212 true rfl rfl rfl (lk 4 rfl rfl) (fun hB _ hF => .eql (ifT hB (lk 3 rfl rfl)) (ifT hB (lk 0 rfl rfl))) ?_
          refine S.sil 218 rfl rfl (fun _ hF => .pickAnd (lk 5 rfl rfl) (fun h => ifT h (lk 0 rfl rfl)) cB) ?_
          refine S.sil 219 rfl rfl (fun _ hF => .move (lk 0 rfl rfl)) ?_
          obtain ⟨r39, m39, h⟩ := h.bnd
          refine S.gsil 220 37 219 true rfl rfl rfl (lk 0 rfl rfl) (fun hB _ hF => .callQ ent21 cF .nil (C_usufructlaw07_awake (gd_get m39 hB))) ?_
          refine S.sil 221 rfl rfl (fun _ hF => .pickAnd (lk 1 rfl rfl) (fun h => ifT h (lk 0 rfl rfl)) cB) ?_
          obtain ⟨v40, ev40, h⟩ := h.nam
          refine S.sil 12 rfl rfl (fun _ hF => .nv (.assign (lk 0 rfl rfl)) (congrArg V.bool ev40.symm)) ?_
          refine S.nil ?_
          refine thenQ_n ?_
          refine AWp.prune (.eq (lk 0 rfl rfl) rfl .nil) ?_
          refine AWp.ret ?_
          obtain rfl := h.ret
          exact endF1 rfl (Wk.selS [] .nil rfl (SelE.leaf (lk 0 rfl rfl) rfl (.refl _) (fun m => (TyOk.bool.lt _ _)) .nil) .nil) (.tmp (lk 0 rfl rfl) rfl) rfl rfl
end Go.Av
