/- Each function tells what its mirror tells. -/
import Derived.Test.YtakadpmjdhcckaaAvWireJoinsG2
import Derived.Test.YtakadpmjdhcckaaProg
import Derived.KernelRfl
namespace Go.Av
set_option linter.unusedSectionVars false
open Go.Proofs
set_option linter.unusedVariables false
set_option linter.unusedSimpArgs false
set_option maxHeartbeats 4000000
set_option maxRecDepth 10000
theorem C_usufructlaw10_awake  {r : Bool} (h : usufructlaw10_awake = some r) : PureC Pg 12 [] (V.bool r) := by
  refine PureC.ofF (CallSpec.of_bodyF 69 0 fn12 rfl rfl rfl (Nat.le_of_ble_eq_true rfl) ?_) ltL_nil (TyOk.bool.lt _ _)
  replace h := Ok.of h
  unfold usufructlaw10_awake at h
  refine AWp.seq ?_
  refine W.reg [0] rfl ?_
  refine S.sil 0 rfl rfl (fun _ hF => .assign cB) ?_
  refine S.nil ?_
  refine thenQ_n ?_
  refine AWp.seq ?_
  refine W.reg [0, 1, 2, 3, 4, 5, 6] rfl ?_
  obtain ⟨r1, m1, h⟩ := h.bnd
  refine S.sil 12 rfl rfl (fun _ hF => .callQ ent34 cF (.c cS (V.sub.refl _) (.c cI (V.sub.refl _) (.c cI (V.sub.refl _) (.c cI (V.sub.refl _) .nil)))) (C_field_Counter m1)) ?_
  refine S.sil 11 rfl rfl (fun _ hF => .move (lk 0 rfl rfl)) ?_
  refine S.sil 13 rfl rfl (fun _ hF => .extract (lk 0 rfl rfl) rfl) ?_
  refine S.sil 14 rfl rfl (fun _ hF => .extract (lk 1 rfl rfl) rfl) ?_
  refine S.eff 1 rfl rfl (.nf (v2 := .ptr 0 [] 0) (H2 := [.cells (.st [V.str (default : ByteArray), (V.int .i64) 0, (V.int .i64) 0, E_TCounter (default : TCounter), E_TLock (default : TLock), .nils])]) (.alloc zv33) rfl rfl) trivial ?_
  refine S.effN rfl rfl (.nf (H2 := [.cells (E_TField r1.1)]) (.storeP sz33 (lk 0 rfl rfl) (lk 2 rfl rfl) rfl (.refl _) rfl .nil (by first | rfl | omega) .nil (ty_TField.fl r1.1) (fl_st (flL_c (show flen _ = 1 from rfl) (flL_c (show flen _ = 1 from rfl) (flL_c (show flen _ = 1 from rfl) (flL_c (ty_TCounter.fl (default : TCounter)) (flL_c (ty_TLock.fl (default : TLock)) (flL_c (show flen _ = 1 from rfl) flL_nil))))))) rfl) rfl rfl) trivial ?_
  refine S.sil 2 rfl rfl (fun _ hF => .assign (lk 1 rfl rfl)) ?_
  refine S.nil ?_
  refine thenQ_n ?_
  refine AWp.wk (Wk.freeze 0 rfl rfl (.cons (lk 1 rfl rfl) rfl (.ptr .nil (by first | rfl | omega)) (.same (lk 6 rfl rfl) .nil)) (.refl _)) ?_
  refine AWp.seq ?_
  refine W.reg [0, 1, 2, 3, 4, 5, 6, 7, 8, 9] rfl ?_
  refine S.sil 16 rfl rfl (fun _ hF => .loadC sz33 ag33 (lk 0 rfl rfl) (ty_TField.fl r1.1) rfl) ?_
  obtain ⟨r2, m2, h⟩ := h.bnd
  refine S.sil 17 rfl rfl (fun _ hF => .callQ ent32 cF (.c (lk 0 rfl rfl) (V.sub.refl _) (.c cI (V.sub.refl _) (.c cI (V.sub.refl _) (.c cI (V.sub.refl _) .nil)))) (C_field_Reserve m2)) ?_
  refine S.sil 15 rfl rfl (fun _ hF => .move (lk 0 rfl rfl)) ?_
  refine S.sil 18 rfl rfl (fun _ hF => .extract (lk 0 rfl rfl) rfl) ?_
  refine S.sil 19 rfl rfl (fun _ hF => .extract (lk 1 rfl rfl) rfl) ?_
  refine S.sil 20 rfl rfl (fun _ hF => .extract (lk 2 rfl rfl) rfl) ?_
  refine S.eff 3 rfl rfl (.nf (v2 := .ptr 1 [] 0) (H2 := [.dead, .cells (.st [V.str (default : ByteArray), (V.int .i64) 0, (V.int .i64) 0, E_TCounter (default : TCounter), E_TLock (default : TLock), .nils])]) (.alloc zv33) rfl rfl) trivial ?_
  refine S.effN rfl rfl (.nf (H2 := [.dead, .cells (E_TField r2.1)]) (.storeP sz33 (lk 0 rfl rfl) (lk 3 rfl rfl) rfl (.refl _) rfl .nil (by first | rfl | omega) .nil (ty_TField.fl r2.1) (fl_st (flL_c (show flen _ = 1 from rfl) (flL_c (show flen _ = 1 from rfl) (flL_c (show flen _ = 1 from rfl) (flL_c (ty_TCounter.fl (default : TCounter)) (flL_c (ty_TLock.fl (default : TLock)) (flL_c (show flen _ = 1 from rfl) flL_nil))))))) rfl) rfl rfl) trivial ?_
  refine S.sil 4 rfl rfl (fun _ hF => .assign (lk 2 rfl rfl)) ?_
  refine S.sil 5 rfl rfl (fun _ hF => .assign (lk 2 rfl rfl)) ?_
  refine S.nil ?_
  refine thenQ_n ?_
  refine AWp.wk (Wk.freeze 1 rfl rfl (.same (lk 0 rfl rfl) (.cons (lk 2 rfl rfl) rfl (.ptr .nil (by first | rfl | omega)) (.same (lk 10 rfl rfl) .nil))) (.refl _)) ?_
  refine AWp.seq ?_
  refine W.reg [0, 1, 2, 3, 4, 5, 6, 7, 8, 9, 10] rfl ?_
  refine S.sil 22 rfl rfl (fun _ hF => .loadC sz33 ag33 (lk 1 rfl rfl) (ty_TField.fl r2.1) rfl) ?_
  obtain ⟨r3, m3, h⟩ := h.bnd
  refine S.sil 23 rfl rfl (fun _ hF => .callQ ent13 cF (.c cI (V.sub.refl _) (.c (lk 0 rfl rfl) (V.sub.refl _) .nil)) (C_wire_Down m3)) ?_
  refine S.sil 21 rfl rfl (fun _ hF => .move (lk 0 rfl rfl)) ?_
  refine S.sil 24 rfl rfl (fun _ hF => .extract (lk 0 rfl rfl) rfl) ?_
  refine S.sil 25 rfl rfl (fun _ hF => .extract (lk 1 rfl rfl) rfl) ?_
  refine S.sil 26 rfl rfl (fun _ hF => .extract (lk 2 rfl rfl) rfl) ?_
  refine S.eff 6 rfl rfl (.nf (v2 := .ptr 2 [] 0) (H2 := [.dead, .dead, .cells (.st [V.str (default : ByteArray), (V.int .i64) 0, (V.int .i64) 0, E_TCounter (default : TCounter), E_TLock (default : TLock), .nils])]) (.alloc zv33) rfl rfl) trivial ?_
  refine S.eff 7 rfl rfl (.nf (v2 := .ptr 3 [] 0) (H2 := [.dead, .dead, .cells (.st [V.str (default : ByteArray), (V.int .i64) 0, (V.int .i64) 0, E_TCounter (default : TCounter), E_TLock (default : TLock), .nils]), .cells (.st [(V.int .i64) 0, .nils])]) (.alloc zv37) rfl rfl) trivial ?_
  refine S.effN rfl rfl (.nf (H2 := [.dead, .dead, .cells (E_TField r3.1), .cells (.st [(V.int .i64) 0, .nils])]) (.storeP sz33 (lk 1 rfl rfl) (lk 4 rfl rfl) rfl (.refl _) rfl .nil (by first | rfl | omega) .nil (ty_TField.fl r3.1) (fl_st (flL_c (show flen _ = 1 from rfl) (flL_c (show flen _ = 1 from rfl) (flL_c (show flen _ = 1 from rfl) (flL_c (ty_TCounter.fl (default : TCounter)) (flL_c (ty_TLock.fl (default : TLock)) (flL_c (show flen _ = 1 from rfl) flL_nil))))))) rfl) rfl rfl) trivial ?_
  refine S.effN rfl rfl (.nf (H2 := [.dead, .dead, .cells (E_TField r3.1), .cells (E_Twire_Residue r3.2.1)]) (.storeP sz37 (lk 0 rfl rfl) (lk 3 rfl rfl) rfl (.refl _) rfl .nil (by first | rfl | omega) .nil (ty_Twire_Residue.fl r3.2.1) (fl_st (flL_c (show flen _ = 1 from rfl) (flL_c (show flen _ = 1 from rfl) flL_nil))) rfl) rfl rfl) trivial ?_
  refine S.sil 8 rfl rfl (fun _ hF => .assign (lk 2 rfl rfl)) ?_
  refine S.nil ?_
  refine thenQ_n ?_
  refine AWp.wk (Wk.freeze 2 rfl rfl (.same (lk 0 rfl rfl) (.same (lk 1 rfl rfl) (.cons (lk 2 rfl rfl) rfl (.ptr .nil (by first | rfl | omega)) (.same (lk 9 rfl rfl) (.same (lk 10 rfl rfl) (.same (lk 11 rfl rfl) .nil)))))) (.refl _)) ?_
  refine AWp.wk (Wk.freeze 3 rfl rfl (.same (lk 0 rfl rfl) (.cons (lk 1 rfl rfl) rfl (.ptr .nil (by first | rfl | omega)) (.same (lk 2 rfl rfl) (.same (lk 3 rfl rfl) (.same (lk 4 rfl rfl) (.same (lk 5 rfl rfl) .nil)))))) (.refl _)) ?_
  refine AWp.seq ?_
  refine W.reg [0, 1, 2, 3, 4, 5, 6, 7, 8] rfl ?_
  refine S.sil 28 rfl rfl (fun _ hF => .loadC sz33 ag33 (lk 2 rfl rfl) (ty_TField.fl r3.1) rfl) ?_
  refine S.sil 29 rfl rfl (fun _ hF => .loadC sz37 ag37 (lk 2 rfl rfl) (ty_Twire_Residue.fl r3.2.1) rfl) ?_
  obtain ⟨r4, m4, h⟩ := h.bnd
  refine S.sil 30 rfl rfl (fun _ hF => .callQ ent16 cF (.c (lk 1 rfl rfl) (V.sub.refl _) (.c (lk 0 rfl rfl) (V.sub.refl _) .nil)) (C_wire_Up m4)) ?_
  refine S.sil 27 rfl rfl (fun _ hF => .move (lk 0 rfl rfl)) ?_
  refine S.sil 31 rfl rfl (fun _ hF => .extract (lk 0 rfl rfl) rfl) ?_
  refine S.sil 32 rfl rfl (fun _ hF => .extract (lk 1 rfl rfl) rfl) ?_
  refine S.eff 9 rfl rfl (.nf (v2 := .ptr 4 [] 0) (H2 := [.dead, .dead, .dead, .dead, .cells (.st [V.str (default : ByteArray), (V.int .i64) 0, (V.int .i64) 0, E_TCounter (default : TCounter), E_TLock (default : TLock), .nils])]) (.alloc zv33) rfl rfl) trivial ?_
  refine S.effN rfl rfl (.nf (H2 := [.dead, .dead, .dead, .dead, .cells (E_TField r4.1)]) (.storeP sz33 (lk 0 rfl rfl) (lk 2 rfl rfl) rfl (.refl _) rfl .nil (by first | rfl | omega) .nil (ty_TField.fl r4.1) (fl_st (flL_c (show flen _ = 1 from rfl) (flL_c (show flen _ = 1 from rfl) (flL_c (show flen _ = 1 from rfl) (flL_c (ty_TCounter.fl (default : TCounter)) (flL_c (ty_TLock.fl (default : TLock)) (flL_c (show flen _ = 1 from rfl) flL_nil))))))) rfl) rfl rfl) trivial ?_
  refine S.sil 10 rfl rfl (fun _ hF => .assign (lk 1 rfl rfl)) ?_
  refine S.nil ?_
  refine thenQ_n ?_
  refine AWp.wk (Wk.freeze 4 rfl rfl (.same (lk 0 rfl rfl) (.cons (lk 1 rfl rfl) rfl (.ptr .nil (by first | rfl | omega)) (.same (lk 8 rfl rfl) (.same (lk 9 rfl rfl) (.same (lk 10 rfl rfl) (.same (lk 11 rfl rfl) (.same (lk 12 rfl rfl) (.same (lk 13 rfl rfl) .nil)))))))) (.refl _)) ?_
  refine AWp.seq ?_
  refine W.reg [0, 1, 2, 3, 4, 5, 6, 7, 8, 9, 10, 11, 12, 13, 14, 15, 16, 17, 18, 19, 20, 21, 22, 23, 24, 25, 26, 27, 28, 29, 30, 31, 32, 33, 34, 35, 36] rfl ?_
  refine S.sil 33 rfl rfl (fun _ hF => .move (lk 5 rfl rfl)) ?_
  refine S.sil 34 rfl rfl (fun _ hF => .eql (lk 0 rfl rfl) cI) ?_
  refine S.sil 35 rfl rfl (fun _ hF => .move (lk 0 rfl rfl)) ?_
  refine S.gsil 36 2 35 true rfl rfl rfl (lk 0 rfl rfl) (fun hB _ hF => .loadC sz33 ag33 (lk 9 rfl rfl) (ty_TField.fl r2.1) rfl) ?_
  obtain ⟨r5, m5, h⟩ := h.bnd
  refine S.gsil 37 2 35 true rfl rfl rfl (lk 1 rfl rfl) (fun hB _ hF => .callQ ent18 cF (.c cI (V.sub.refl _) (.c (ifT hB (lk 0 rfl rfl)) (V.sub.refl _) .nil)) (C_wire_Says (gd_get m5 hB))) ?_
  refine S.gsil 38 2 35 true rfl rfl rfl (lk 2 rfl rfl) (fun hB _ hF => .not (ifT hB (lk 0 rfl rfl))) ?_
  refine S.sil 39 rfl rfl (fun _ hF => .pickAnd (lk 3 rfl rfl) (fun h => ifT h (lk 0 rfl rfl)) cB) ?_
  refine S.sil 40 rfl rfl (fun _ hF => .move (lk 0 rfl rfl)) ?_
  refine S.gsil 41 7 40 true rfl rfl rfl (lk 0 rfl rfl) (fun hB _ hF => .loadC sz33 ag33 (lk 14 rfl rfl) (ty_TField.fl r2.1) rfl) ?_
  obtain ⟨r6, m6, h⟩ := h.bnd
  refine S.gsil 42 7 40 true rfl rfl rfl (lk 1 rfl rfl) (fun hB _ hF => .callQ ent18 cF (.c cI (V.sub.refl _) (.c (ifT hB (lk 0 rfl rfl)) (V.sub.refl _) .nil)) (C_wire_Says (gd_get m6 hB))) ?_
  refine S.sil 43 rfl rfl (fun _ hF => .pickAnd (lk 2 rfl rfl) (fun h => ifT h (lk 0 rfl rfl)) cB) ?_
  refine S.sil 44 rfl rfl (fun _ hF => .move (lk 0 rfl rfl)) ?_
  refine S.gsil 45 11 44 true rfl rfl rfl (lk 0 rfl rfl) (fun hB _ hF => .move (lk 14 rfl rfl)) ?_
  refine S.gsil 46 11 44 true rfl rfl rfl (lk 1 rfl rfl) (fun hB _ hF => .eql (ifT hB (lk 0 rfl rfl)) cI) ?_
  refine S.sil 47 rfl rfl (fun _ hF => .pickAnd (lk 2 rfl rfl) (fun h => ifT h (lk 0 rfl rfl)) cB) ?_
  refine S.sil 48 rfl rfl (fun _ hF => .move (lk 0 rfl rfl)) ?_
  refine S.gsil 49 15 48 true rfl rfl rfl (lk 0 rfl rfl) (fun hB _ hF => .fieldAddrC lay37 rfl rfl (lk 19 rfl rfl) rfl (flL_c (show flen _ = 1 from rfl) flL_nil)) ?_
  refine S.gsil 50 15 48 true rfl rfl rfl (lk 1 rfl rfl) (fun hB _ hF => .loadC sz31 ag31 (ifT hB (lk 0 rfl rfl)) rfl rfl) ?_
  refine S.gsil 51 15 48 true rfl rfl rfl (lk 2 rfl rfl) (fun hB _ hF => .lenT sli31 (ifT hB (lk 0 rfl rfl)) (vsub rfl (.refl _))) ?_
  refine S.gsil 52 15 48 true rfl rfl rfl (lk 3 rfl rfl) (fun hB _ hF => .eql (ifT hB (lk 0 rfl rfl)) cI) ?_
  obtain ⟨v7, ev7, h⟩ := h.nam
  refine S.sil 53 rfl rfl (fun _ hF => .nv (.pickAnd (lk 4 rfl rfl) (fun h => ifT h (lk 0 rfl rfl)) cB) (congrArg V.bool ev7.symm)) ?_
  refine S.sil 54 rfl rfl (fun _ hF => .move (lk 0 rfl rfl)) ?_
  refine S.gsil 55 21 54 true rfl rfl rfl (lk 0 rfl rfl) (fun hB _ hF => .fieldAddrC lay33 rfl rfl (lk 26 rfl rfl) rfl (flL_c (show flen _ = 1 from rfl) (flL_c (show flen _ = 1 from rfl) (flL_c (show flen _ = 1 from rfl) (flL_c (ty_TCounter.fl r3.1.Counter) (flL_c (ty_TLock.fl r3.1.Lock) flL_nil)))))) ?_
  refine S.gsil 56 21 54 true rfl rfl rfl (lk 1 rfl rfl) (fun hB _ hF => .loadC sz31 ag31 (ifT hB (lk 0 rfl rfl)) rfl rfl) ?_
  refine S.gsil 57 21 54 true rfl rfl rfl (lk 2 rfl rfl) (fun hB _ hF => .lenT sli31 (ifT hB (lk 0 rfl rfl)) (vsub rfl (.refl _))) ?_
  refine S.gsil 58 21 54 true rfl rfl rfl (lk 3 rfl rfl) (fun hB _ hF => .eql (ifT hB (lk 0 rfl rfl)) cI) ?_
  refine S.sil 59 rfl rfl (fun _ hF => .pickAnd (lk 4 rfl rfl) (fun h => ifT h (lk 0 rfl rfl)) cB) ?_
  refine S.sil 60 rfl rfl (fun _ hF => .move (lk 0 rfl rfl)) ?_
  refine S.gsil 61 27 60 true rfl rfl rfl (lk 0 rfl rfl) (fun hB _ hF => .move (lk 28 rfl rfl)) ?_
  refine S.gsil 62 27 60 true rfl rfl rfl (lk 1 rfl rfl) (fun hB _ hF => .eql (ifT hB (lk 0 rfl rfl)) cI) ?_
  obtain ⟨v8, ev8, h⟩ := h.nam
  refine S.sil 63 rfl rfl (fun _ hF => .nv (.pickAnd (lk 2 rfl rfl) (fun h => ifT h (lk 0 rfl rfl)) cB) (congrArg V.bool ev8.symm)) ?_
  refine S.sil 64 rfl rfl (fun _ hF => .move (lk 0 rfl rfl)) ?_
  refine S.gsil 65 31 64 true rfl rfl rfl (lk 0 rfl rfl) (fun hB _ hF => .loadC sz33 ag33 (lk 33 rfl rfl) (ty_TField.fl r4.1) rfl) ?_
  refine S.gsil 66 31 64 true rfl rfl rfl (lk 1 rfl rfl) (fun hB _ hF => .loadC sz33 ag33 (lk 39 rfl rfl) (ty_TField.fl r2.1) rfl) ?_
  obtain ⟨r9, m9, h⟩ := h.bnd
  refine S.gsil 67 31 64 true rfl rfl rfl (lk 2 rfl rfl) (fun hB _ hF => .callQ ent35 cF (.c (ifT hB (lk 1 rfl rfl)) (V.sub.refl _) (.c (ifT hB (lk 0 rfl rfl)) (V.sub.refl _) .nil)) (C_field_Same (gd_get m9 hB))) ?_
  refine S.sil 68 rfl rfl (fun _ hF => .pickAnd (lk 3 rfl rfl) (fun h => ifT h (lk 0 rfl rfl)) cB) ?_
  refine S.sil 0 rfl rfl (fun _ hF => .assign (lk 0 rfl rfl)) ?_
  refine S.nil ?_
  refine thenQ_n ?_
  refine AWp.prune (.eq (lk 0 rfl rfl) rfl .nil) ?_
  refine AWp.ret ?_
  obtain rfl := h.ret
  exact endF1 rfl (Wk.selS [] .nil rfl (SelE.leaf (lk 0 rfl rfl) rfl (.refl _) (fun m => (TyOk.bool.lt _ _)) .nil) .nil) (.tmp (lk 0 rfl rfl) rfl) rfl rfl
theorem C_usufructref02_Join {a1 : Vector Int 16} {a2 : Vector Int 16} {r : (Vector Int 16)} (h : usufructref02_Join a1 a2 = some r) : PureC Pg 147 [E_A16_i64 a1, E_A16_i64 a2] (E_A16_i64 r) := by
  refine PureC.ofF (CallSpec.of_bodyF 29 0 fn147 rfl rfl rfl (Nat.le_of_ble_eq_true rfl) ?_) (ltL_c (ty_A16_i64.lt _ _) (ltL_c (ty_A16_i64.lt _ _) ltL_nil)) (ty_A16_i64.lt _ _)
  replace h := Ok.of h
  unfold usufructref02_Join at h
  refine AWp.seq ?_
  refine W.reg [0, 1, 2] rfl ?_
  refine S.eff 2 rfl rfl (.nf (v2 := .ptr 0 [] 0) (H2 := [.cells (E_A16_i64 a1)]) (.box (lk 0 rfl rfl) rfl) rfl rfl) trivial ?_
  refine S.eff 3 rfl rfl (.nf (v2 := .ptr 1 [] 0) (H2 := [.cells (E_A16_i64 a1), .cells (E_A16_i64 a2)]) (.box (lk 2 rfl rfl) rfl) rfl rfl) trivial ?_
  refine S.eff 4 rfl rfl (.nf (v2 := .ptr 2 [] 0) (H2 := [.cells (E_A16_i64 a1), .cells (E_A16_i64 a2), .cells (E_A16_i64 (default : Vector Int 16))]) (.alloc zv23) rfl rfl) trivial ?_
  refine S.nil ?_
  refine thenQ_n ?_
  refine AWp.wk (Wk.freeze 0 rfl rfl (.same (lk 0 rfl rfl) (.same (lk 1 rfl rfl) (.cons (lk 2 rfl rfl) rfl (.ptr .nil (by first | rfl | omega)) .nil))) (.refl _)) ?_
  refine AWp.wk (Wk.freeze 1 rfl rfl (.same (lk 0 rfl rfl) (.cons (lk 1 rfl rfl) rfl (.ptr .nil (by first | rfl | omega)) (.same (lk 2 rfl rfl) .nil))) (.refl _)) ?_
  refine AWp.seq ?_
  refine W.reg [0] rfl ?_
  refine S.eff 5 rfl rfl (.nf (v2 := .ptr 3 [] 0) (H2 := [.dead, .dead, .cells (E_A16_i64 (default : Vector Int 16)), .cells (E_A16_i64 (default : Vector Int 16))]) (.alloc zv23) rfl rfl) trivial ?_
  refine S.nil ?_
  refine thenQ_n ?_
  refine AWp.seq ?_
  refine AWp.seq ?_
  refine W.reg [0] rfl ?_
  refine S.sil 6 rfl rfl (fun _ hF => .assign cI) ?_
  refine S.nil ?_
  refine thenQ_n ?_
  refine AWp.cutX (fun x5 => ⟨[(5, .ptr 0 [] 0), (4, .ptr 1 [] 0)], [.cells (E_A16_i64 x5), .cells (E_A16_i64 (default : Vector Int 16))]⟩) nc_then h (fun q3 hq3 => ?_) (fun x5 h => ?_)
  · refine AWp.block ?_
    refine AWp.loopT (fun s4 => ⟨[(6, (V.int .i64) s4.1), (5, .ptr 0 [] 0), (4, .ptr 1 [] 0), (3, .cptr (E_A16_i64 a2)), (2, .cptr (E_A16_i64 a1))], [.cells (E_A16_i64 s4.2), .cells (E_A16_i64 (default : Vector Int 16))]⟩) hq3 (Wk.selS [3, 2] (by decide) rfl (SelE.leaf (lk 0 rfl rfl) rfl (.refl _) (fun m => ((TyOk.int .i64).lt _ _)) (SelE.spec (lk 1 rfl rfl) rfl (.refl _) rfl rfl (SelE.spec (lk 2 rfl rfl) rfl (.refl _) rfl rfl (SelE.leaf (lk 3 rfl rfl) rfl (.refl _) (fun m => (lt_cptr (ty_A16_i64.lt _ _))) (SelE.leaf (lk 4 rfl rfl) rfl (.refl _) (fun m => (lt_cptr (ty_A16_i64.lt _ _))) .nil))))) (.cons (lt_cells (ty_A16_i64.lt _ _)) rfl (RSub.trans (.refl _) (.eq (ty_A16_i64.cl _ _).symm)) (.cons (lt_cells (ty_A16_i64.lt (default : Vector Int 16) _)) rfl (RSub.trans (.refl _) (.eq (ty_A16_i64.cl _ _).symm)) .nil))) (fun _ s4 h3 => ?_)
    rw [usufructref02_Join_L1] at h3
    refine AWp.seq ?_
    refine AWp.seq ?_
    refine W.reg [0, 1] rfl ?_
    refine S.sil 7 rfl rfl (fun _ hF => .move (lk 0 rfl rfl)) ?_
    refine S.sil 8 rfl rfl (fun _ hF => .lss (lk 0 rfl rfl) cI) ?_
    refine S.nil ?_
    refine thenQ_n ?_
    refine AWp.condM (lk 0 rfl rfl) h3 (fun c1 h3 => ?_) (fun c1 h3 => ?_)
    · skip
      refine AWp.skip ?_
      refine thenQ_n ?_
      refine AWp.seq ?_
      refine AWp.block ?_
      refine AWp.seq ?_
      refine W.reg [0, 1, 2, 3, 4, 5] rfl ?_
      refine S.sil 11 rfl rfl (fun _ hF => .move (lk 2 rfl rfl)) ?_
      refine S.sil 12 rfl rfl (fun _ hF => .move (lk 3 rfl rfl)) ?_
      obtain ⟨k6, m6, h3⟩ := h3.bnd
      refine S.sil 13 rfl rfl (fun _ hF => .ixC arr23 (lk 8 rfl rfl) (lk 0 rfl rfl) m6) ?_
      refine S.sil 14 rfl rfl (fun _ hF => .loadC sz3 ag3 (lk 0 rfl rfl) rfl rfl) ?_
      obtain ⟨k7, m7, h3⟩ := h3.bnd
      refine S.sil 15 rfl rfl (fun _ hF => .ixP arr23 (lk 7 rfl rfl) (lk 3 rfl rfl) m7) ?_
      obtain ⟨v8, ev8, h3⟩ := h3.nam
      refine S.effN rfl rfl (.nf (H2 := [.cells (E_A16_i64 v8), .cells (E_A16_i64 (default : Vector Int 16))]) (.storeP sz3 (lk 0 rfl rfl) (lk 1 rfl rfl) rfl (.refl _) rfl (.vc k7 .nil) (by first | rfl | omega) (.vc (a1.get k6) k7 .nil) rfl rfl (congrArg (fun z => ([AObj.cells (E_A16_i64 z), .cells (E_A16_i64 (default : Vector Int 16))] : List AObj)) ev8.symm)) rfl rfl) trivial ?_
      refine S.nil ?_
      refine thenQ_n ?_
      refine AWp.seq ?_
      refine W.regD [0, 1, 2, 3, 4, 5, 6] mixed ?_
      refine S.sil 16 rfl rfl (fun _ hF => .move (lk 7 rfl rfl)) ?_
      obtain ⟨k9, m9, h3⟩ := h3.bnd
      refine S.sil 17 rfl rfl (fun _ hF => .ixC arr23 (lk 11 rfl rfl) (lk 0 rfl rfl) m9) ?_
      refine S.sil 18 rfl rfl (fun _ hF => .loadC sz3 ag3 (lk 0 rfl rfl) rfl rfl) ?_
      refine S.sil 19 rfl rfl (fun _ hF => .move (lk 10 rfl rfl)) ?_
      obtain ⟨k10, m10, h3⟩ := h3.bnd
      refine S.sil 20 rfl rfl (fun _ hF => .ixC arr23 (lk 15 rfl rfl) (lk 0 rfl rfl) m10) ?_
      refine S.sil 21 rfl rfl (fun _ hF => .loadC sz3 ag3 (lk 0 rfl rfl) rfl rfl) ?_
      refine S.sil 22 rfl rfl (fun _ hF => .gtr (lk 3 rfl rfl) (lk 0 rfl rfl)) ?_
      refine S.nilD (by kernel_rfl) ?_
      refine thenQ_n ?_
      refine AWp.condM (lk 0 rfl rfl) h3 (fun c2 h3 => ?_) (fun c2 h3 => ?_)
      · skip
        refine W.reg [0, 1, 2, 3, 4, 5] rfl ?_
        refine S.sil 23 rfl rfl (fun _ hF => .move (lk 14 rfl rfl)) ?_
        refine S.sil 24 rfl rfl (fun _ hF => .move (lk 15 rfl rfl)) ?_
        obtain ⟨k11, m11, h3⟩ := h3.bnd
        refine S.sil 25 rfl rfl (fun _ hF => .ixC arr23 (lk 19 rfl rfl) (lk 0 rfl rfl) m11) ?_
        refine S.sil 26 rfl rfl (fun _ hF => .loadC sz3 ag3 (lk 0 rfl rfl) rfl rfl) ?_
        obtain ⟨k12, m12, h3⟩ := h3.bnd
        refine S.sil 27 rfl rfl (fun _ hF => .ixP arr23 (lk 19 rfl rfl) (lk 3 rfl rfl) m12) ?_
        obtain ⟨v13, ev13, h3⟩ := h3.nam
        refine S.effN rfl rfl (.nf (H2 := [.cells (E_A16_i64 v13), .cells (E_A16_i64 (default : Vector Int 16))]) (.storeP sz3 (lk 0 rfl rfl) (lk 1 rfl rfl) rfl (.refl _) rfl (.vc k12 .nil) (by first | rfl | omega) (.vc (a2.get k11) k12 .nil) rfl rfl (congrArg (fun z => ([AObj.cells (E_A16_i64 z), .cells (E_A16_i64 (default : Vector Int 16))] : List AObj)) ev13.symm)) rfl rfl) trivial ?_
        refine S.nil ?_
        refine blockQ_n ?_
        refine thenQ_n ?_
        refine W.reg [0, 1, 2] rfl ?_
        refine S.sil 9 rfl rfl (fun _ hF => .move (lk 19 rfl rfl)) ?_
        refine S.sil 10 rfl rfl (fun _ hF => .add (lk 0 rfl rfl) cI) ?_
        refine S.sil 6 rfl rfl (fun _ hF => .assign (lk 0 rfl rfl)) ?_
        refine S.nil ?_
        refine thenQ_n ?_
        exact ⟨_, h3.ret, (Wk.selS [0, 1] (by decide) rfl (SelE.leaf (lk 0 rfl rfl) rfl (.refl _) (fun m => ((TyOk.int .i64).lt _ _)) (SelE.spec (lk 23 rfl rfl) rfl (.refl _) rfl rfl (SelE.spec (lk 24 rfl rfl) rfl (.refl _) rfl rfl (SelE.leaf (lk 25 rfl rfl) rfl (.refl _) (fun m => (lt_cptr (ty_A16_i64.lt _ _))) (SelE.leaf (lk 26 rfl rfl) rfl (.refl _) (fun m => (lt_cptr (ty_A16_i64.lt _ _))) .nil))))) (.cons (lt_cells (ty_A16_i64.lt _ _)) rfl (RSub.trans (.refl _) (.eq (ty_A16_i64.cl _ _).symm)) (.cons (lt_cells (ty_A16_i64.lt (default : Vector Int 16) _)) rfl (RSub.trans (.refl _) (.eq (ty_A16_i64.cl _ _).symm)) .nil)))⟩
      · skip
        refine AWp.skip ?_
        refine blockQ_n ?_
        refine thenQ_n ?_
        refine W.reg [0, 1, 2] rfl ?_
        refine S.sil 9 rfl rfl (fun _ hF => .move (lk 14 rfl rfl)) ?_
        refine S.sil 10 rfl rfl (fun _ hF => .add (lk 0 rfl rfl) cI) ?_
        refine S.sil 6 rfl rfl (fun _ hF => .assign (lk 0 rfl rfl)) ?_
        refine S.nil ?_
        refine thenQ_n ?_
        exact ⟨_, h3.ret, (Wk.selS [0, 1] (by decide) rfl (SelE.leaf (lk 0 rfl rfl) rfl (.refl _) (fun m => ((TyOk.int .i64).lt _ _)) (SelE.spec (lk 18 rfl rfl) rfl (.refl _) rfl rfl (SelE.spec (lk 19 rfl rfl) rfl (.refl _) rfl rfl (SelE.leaf (lk 20 rfl rfl) rfl (.refl _) (fun m => (lt_cptr (ty_A16_i64.lt _ _))) (SelE.leaf (lk 21 rfl rfl) rfl (.refl _) (fun m => (lt_cptr (ty_A16_i64.lt _ _))) .nil))))) (.cons (lt_cells (ty_A16_i64.lt _ _)) rfl (RSub.trans (.refl _) (.eq (ty_A16_i64.cl _ _).symm)) (.cons (lt_cells (ty_A16_i64.lt (default : Vector Int 16) _)) rfl (RSub.trans (.refl _) (.eq (ty_A16_i64.cl _ _).symm)) .nil)))⟩
    · skip
      refine AWp.exit ?_
      refine thenQ_x ?_
      refine thenQ_x ?_
      refine blockQ_x ?_
      refine thenQ_n ?_
      exact ⟨_, h3.ret, (Wk.selS [0, 1] (by decide) rfl (SelE.spec (lk 3 rfl rfl) rfl (.refl _) rfl rfl (SelE.spec (lk 4 rfl rfl) rfl (.refl _) rfl rfl .nil)) (.cons (lt_cells (ty_A16_i64.lt _ _)) rfl (RSub.trans (.refl _) (.eq (ty_A16_i64.cl _ _).symm)) (.cons (lt_cells (ty_A16_i64.lt (default : Vector Int 16) _)) rfl (RSub.trans (.refl _) (.eq (ty_A16_i64.cl _ _).symm)) .nil)))⟩
  · skip
    refine thenQ_n ?_
    refine AWp.seq ?_
    refine W.reg [0, 1] rfl ?_
    refine S.qui 28 rfl rfl (fun _ => .loadP sz23 ag23 (lk 0 rfl rfl) rfl .nil (by first | rfl | omega) (ty_A16_i64.fl x5) rfl) ?_
    refine S.effN rfl rfl (.nf (H2 := [.cells (E_A16_i64 x5), .cells (E_A16_i64 x5)]) (.storeP sz23 (lk 2 rfl rfl) (lk 0 rfl rfl) rfl (.refl _) rfl .nil (by first | rfl | omega) .nil (ty_A16_i64.fl x5) (ty_A16_i64.fl (default : Vector Int 16)) rfl) rfl rfl) trivial ?_
    refine S.nil ?_
    refine thenQ_n ?_
    refine AWp.ret ?_
    refine endF_wk (Wk.freeze 1 rfl rfl (.cons (lk 2 rfl rfl) rfl (.ptr .nil (by first | rfl | omega)) .nil) (.refl _)) ?_
    obtain rfl := h.ret
    exact endF1 rfl (Wk.selS [] .nil rfl (SelE.leaf (lk 0 rfl rfl) rfl (.refl _) (fun m => (lt_cptr (ty_A16_i64.lt _ _))) .nil) .nil) (.cellC sz23 ag23 (lk 0 rfl rfl) (ty_A16_i64.fl _) rfl) rfl rfl
theorem C_usufructref03_Join {a1 : TRights} {a2 : TRights} {r : TRights} (h : usufructref03_Join a1 a2 = some r) : PureC Pg 104 [E_TRights a1, E_TRights a2] (E_TRights r) := by
  refine PureC.ofF (CallSpec.of_bodyF 35 0 fn104 rfl rfl rfl (Nat.le_of_ble_eq_true rfl) ?_) (ltL_c (ty_TRights.lt _ _) (ltL_c (ty_TRights.lt _ _) ltL_nil)) (ty_TRights.lt _ _)
  replace h := Ok.of h
  unfold usufructref03_Join at h
  refine AWp.seq ?_
  refine W.reg [0, 1, 2] rfl ?_
  refine S.eff 2 rfl rfl (.nf (v2 := .ptr 0 [] 0) (H2 := [.cells (E_TRights a1)]) (.box (lk 0 rfl rfl) rfl) rfl rfl) trivial ?_
  refine S.eff 3 rfl rfl (.nf (v2 := .ptr 1 [] 0) (H2 := [.cells (E_TRights a1), .cells (E_TRights a2)]) (.box (lk 2 rfl rfl) rfl) rfl rfl) trivial ?_
  refine S.eff 4 rfl rfl (.nf (v2 := .ptr 2 [] 0) (H2 := [.cells (E_TRights a1), .cells (E_TRights a2), .cells (E_TRights (default : TRights))]) (.alloc zv26) rfl rfl) trivial ?_
  refine S.nil ?_
  refine thenQ_n ?_
  refine AWp.wk (Wk.freeze 0 rfl rfl (.same (lk 0 rfl rfl) (.same (lk 1 rfl rfl) (.cons (lk 2 rfl rfl) rfl (.ptr .nil (by first | rfl | omega)) .nil))) (.refl _)) ?_
  refine AWp.wk (Wk.freeze 1 rfl rfl (.same (lk 0 rfl rfl) (.cons (lk 1 rfl rfl) rfl (.ptr .nil (by first | rfl | omega)) (.same (lk 2 rfl rfl) .nil))) (.refl _)) ?_
  refine AWp.seq ?_
  refine W.regD [0, 1, 2, 3, 4, 5, 6, 7, 8, 9, 10, 11, 12] mixed ?_
  refine S.sil 7 rfl rfl (fun _ hF => .fieldAddrC lay26 rfl rfl (lk 2 rfl rfl) rfl flL_nil) ?_
  refine S.sil 8 rfl rfl (fun _ hF => .loadC sz23 ag23 (lk 0 rfl rfl) (ty_A16_i64.fl a1.Given) rfl) ?_
  refine S.sil 9 rfl rfl (fun _ hF => .fieldAddrC lay26 rfl rfl (lk 3 rfl rfl) rfl flL_nil) ?_
  refine S.sil 10 rfl rfl (fun _ hF => .loadC sz23 ag23 (lk 0 rfl rfl) (ty_A16_i64.fl a2.Given) rfl) ?_
  obtain ⟨r3, m3, h⟩ := h.bnd
  refine S.sil 11 rfl rfl (fun _ hF => .callQ ent147 cF (.c (lk 2 rfl rfl) (V.sub.refl _) (.c (lk 0 rfl rfl) (V.sub.refl _) .nil)) (C_usufructref02_Join m3)) ?_
  refine S.sil 12 rfl rfl (fun _ hF => .fieldAddrC lay26 rfl rfl (lk 7 rfl rfl) rfl (flL_c (ty_A16_i64.fl a1.Given) flL_nil)) ?_
  refine S.sil 13 rfl rfl (fun _ hF => .loadC sz23 ag23 (lk 0 rfl rfl) (ty_A16_i64.fl a1.Used) rfl) ?_
  refine S.sil 14 rfl rfl (fun _ hF => .fieldAddrC lay26 rfl rfl (lk 8 rfl rfl) rfl (flL_c (ty_A16_i64.fl a2.Given) flL_nil)) ?_
  refine S.sil 15 rfl rfl (fun _ hF => .loadC sz23 ag23 (lk 0 rfl rfl) (ty_A16_i64.fl a2.Used) rfl) ?_
  obtain ⟨r4, m4, h⟩ := h.bnd
  refine S.sil 16 rfl rfl (fun _ hF => .callQ ent147 cF (.c (lk 2 rfl rfl) (V.sub.refl _) (.c (lk 0 rfl rfl) (V.sub.refl _) .nil)) (C_usufructref02_Join m4)) ?_
  obtain ⟨v5, ev5, h⟩ := h.nam
  refine S.sil 17 rfl rfl (fun _ hF => .nv (.nv (v2 := E_TRights (⟨r3, r4, (default : Vector (Vector Int 16) 16)⟩ : TRights)) (.buildStW lay26 zv26 rfl (.cons (lk 5 rfl rfl) rfl rfl (ty_A16_i64.fl r3) rfl (.cons (lk 0 rfl rfl) rfl rfl (ty_A16_i64.fl r4) rfl .nil))) rfl) (congrArg E_TRights ev5.symm)) ?_
  refine S.new 5 rfl rfl (.alloc zv26) trivial ?_
  refine S.effN rfl rfl (.storeP sz26 (lk 0 rfl rfl) (lk 1 rfl rfl) rfl (.refl _) rfl .nil (by first | rfl | omega) .nil (ty_TRights.fl v5) (ty_TRights.fl (default : TRights)) rfl) trivial ?_
  refine S.nilD (by kernel_rfl) ?_
  refine thenQ_n ?_
  refine AWp.prune (.eq (lk 0 rfl rfl) rfl (.eq (lk 12 rfl rfl) rfl (.eq (lk 13 rfl rfl) rfl (.eq (lk 14 rfl rfl) rfl .nil)))) ?_
  refine AWp.seq ?_
  refine AWp.seq ?_
  refine W.reg [0] rfl ?_
  refine S.sil 6 rfl rfl (fun _ hF => .assign cI) ?_
  refine S.nil ?_
  refine thenQ_n ?_
  refine AWp.cutX (fun x8 => ⟨[(5, .ptr 0 [] 0), (4, .ptr 1 [] 0)], [.cells (E_TRights x8), .cells (E_TRights (default : TRights))]⟩) nc_then h (fun q6 hq6 => ?_) (fun x8 h => ?_)
  · refine AWp.block ?_
    refine AWp.loopT (fun s7 => ⟨[(6, (V.int .i64) s7.1), (5, .ptr 0 [] 0), (4, .ptr 1 [] 0), (3, .cptr (E_TRights a2)), (2, .cptr (E_TRights a1))], [.cells (E_TRights s7.2), .cells (E_TRights (default : TRights))]⟩) hq6 (Wk.selS [3, 2] (by decide) rfl (SelE.leaf (lk 0 rfl rfl) rfl (.refl _) (fun m => ((TyOk.int .i64).lt _ _)) (SelE.spec (lk 1 rfl rfl) rfl (.refl _) rfl rfl (SelE.spec (lk 2 rfl rfl) rfl (.refl _) rfl rfl (SelE.leaf (lk 3 rfl rfl) rfl (.refl _) (fun m => (lt_cptr (ty_TRights.lt _ _))) (SelE.leaf (lk 4 rfl rfl) rfl (.refl _) (fun m => (lt_cptr (ty_TRights.lt _ _))) .nil))))) (.cons (lt_cells (ty_TRights.lt _ _)) rfl (RSub.trans (.refl _) (.eq (ty_TRights.cl _ _).symm)) (.cons (lt_cells (ty_TRights.lt (default : TRights) _)) rfl (RSub.trans (.refl _) (.eq (ty_TRights.cl _ _).symm)) .nil))) (fun _ s7 h6 => ?_)
    rw [usufructref03_Join_L1] at h6
    refine AWp.seq ?_
    refine AWp.seq ?_
    refine W.reg [0, 1] rfl ?_
    refine S.sil 18 rfl rfl (fun _ hF => .move (lk 0 rfl rfl)) ?_
    refine S.sil 19 rfl rfl (fun _ hF => .lss (lk 0 rfl rfl) cI) ?_
    refine S.nil ?_
    refine thenQ_n ?_
    refine AWp.condM (lk 0 rfl rfl) h6 (fun c1 h6 => ?_) (fun c1 h6 => ?_)
    · skip
      refine AWp.skip ?_
      refine thenQ_n ?_
      refine AWp.seq ?_
      refine AWp.block ?_
      refine W.regD [0, 1, 2, 3, 4, 5, 6, 7, 8, 9, 10, 11, 12] mixed ?_
      refine S.sil 22 rfl rfl (fun _ hF => .move (lk 2 rfl rfl)) ?_
      refine S.sil 23 rfl rfl (fun _ hF => .move (lk 3 rfl rfl)) ?_
      refine S.sil 24 rfl rfl (fun _ hF => .fieldAddrC lay26 rfl rfl (lk 8 rfl rfl) rfl (flL_c (ty_A16_i64.fl a1.Given) (flL_c (ty_A16_i64.fl a1.Used) flL_nil))) ?_
      obtain ⟨k9, m9, h6⟩ := h6.bnd
      refine S.sil 25 rfl rfl (fun _ hF => .ixC arr24 (lk 0 rfl rfl) (lk 1 rfl rfl) m9) ?_
      obtain ⟨v10, ev10, h6⟩ := h6.nam
      refine S.sil 26 rfl rfl (fun _ hF => .nv (.loadC sz23 ag23 (lk 0 rfl rfl) (ty_A16_i64.fl (a1.Moved.get k9)) rfl) (congrArg E_A16_i64 ev10.symm)) ?_
      refine S.sil 27 rfl rfl (fun _ hF => .move (lk 7 rfl rfl)) ?_
      refine S.sil 28 rfl rfl (fun _ hF => .fieldAddrC lay26 rfl rfl (lk 11 rfl rfl) rfl (flL_c (ty_A16_i64.fl a2.Given) (flL_c (ty_A16_i64.fl a2.Used) flL_nil))) ?_
      obtain ⟨k11, m11, h6⟩ := h6.bnd
      refine S.sil 29 rfl rfl (fun _ hF => .ixC arr24 (lk 0 rfl rfl) (lk 1 rfl rfl) m11) ?_
      obtain ⟨v12, ev12, h6⟩ := h6.nam
      refine S.sil 30 rfl rfl (fun _ hF => .nv (.loadC sz23 ag23 (lk 0 rfl rfl) (ty_A16_i64.fl (a2.Moved.get k11)) rfl) (congrArg E_A16_i64 ev12.symm)) ?_
      obtain ⟨r13, m13, h6⟩ := h6.bnd
      refine S.sil 31 rfl rfl (fun _ hF => .callQ ent147 cF (.c (lk 4 rfl rfl) (V.sub.refl _) (.c (lk 0 rfl rfl) (V.sub.refl _) .nil)) (C_usufructref02_Join m13)) ?_
      refine S.sil 32 rfl rfl (fun _ hF => .fieldAddr lay26 rfl rfl (lk 13 rfl rfl)) ?_
      obtain ⟨k14, m14, h6⟩ := h6.bnd
      refine S.sil 33 rfl rfl (fun _ hF => .ixP arr24 (lk 0 rfl rfl) (lk 10 rfl rfl) m14) ?_
      obtain ⟨v15, ev15, h6⟩ := h6.nam
      refine S.effN rfl rfl (.storeP sz23 (lk 0 rfl rfl) (lk 2 rfl rfl) rfl (.refl _) rfl (.st rfl (flL_c (ty_A16_i64.fl s7.2.Given) (flL_c (ty_A16_i64.fl s7.2.Used) flL_nil)) (.vc k14 .nil)) (by first | rfl | omega) (.st rfl (.vc r13 k14 .nil) rfl) (ty_A16_i64.fl r13) (ty_A16_i64.fl (s7.2.Moved.get k14)) (congrArg (fun z => ([AObj.cells (E_TRights z), .cells (E_TRights (default : TRights))] : List AObj)) ev15.symm)) trivial ?_
      refine S.nilD (by kernel_rfl) ?_
      refine blockQ_n ?_
      refine thenQ_n ?_
      refine W.reg [0, 1, 2] rfl ?_
      refine S.sil 20 rfl rfl (fun _ hF => .move (lk 14 rfl rfl)) ?_
      refine S.sil 21 rfl rfl (fun _ hF => .add (lk 0 rfl rfl) cI) ?_
      refine S.sil 6 rfl rfl (fun _ hF => .assign (lk 0 rfl rfl)) ?_
      refine S.nil ?_
      refine thenQ_n ?_
      exact ⟨_, h6.ret, (Wk.selS [0, 1] (by decide) rfl (SelE.leaf (lk 0 rfl rfl) rfl (.refl _) (fun m => ((TyOk.int .i64).lt _ _)) (SelE.spec (lk 18 rfl rfl) rfl (.refl _) rfl rfl (SelE.spec (lk 19 rfl rfl) rfl (.refl _) rfl rfl (SelE.leaf (lk 20 rfl rfl) rfl (.refl _) (fun m => (lt_cptr (ty_TRights.lt _ _))) (SelE.leaf (lk 21 rfl rfl) rfl (.refl _) (fun m => (lt_cptr (ty_TRights.lt _ _))) .nil))))) (.cons (lt_cells (ty_TRights.lt _ _)) rfl (RSub.trans (.refl _) (.eq (ty_TRights.cl _ _).symm)) (.cons (lt_cells (ty_TRights.lt (default : TRights) _)) rfl (RSub.trans (.refl _) (.eq (ty_TRights.cl _ _).symm)) .nil)))⟩
    · skip
      refine AWp.exit ?_
      refine thenQ_x ?_
      refine thenQ_x ?_
      refine blockQ_x ?_
      refine thenQ_n ?_
      exact ⟨_, h6.ret, (Wk.selS [0, 1] (by decide) rfl (SelE.spec (lk 3 rfl rfl) rfl (.refl _) rfl rfl (SelE.spec (lk 4 rfl rfl) rfl (.refl _) rfl rfl .nil)) (.cons (lt_cells (ty_TRights.lt _ _)) rfl (RSub.trans (.refl _) (.eq (ty_TRights.cl _ _).symm)) (.cons (lt_cells (ty_TRights.lt (default : TRights) _)) rfl (RSub.trans (.refl _) (.eq (ty_TRights.cl _ _).symm)) .nil)))⟩
  · skip
    refine thenQ_n ?_
    refine AWp.seq ?_
    refine W.reg [0, 1] rfl ?_
    refine S.qui 34 rfl rfl (fun _ => .loadP sz26 ag26 (lk 0 rfl rfl) rfl .nil (by first | rfl | omega) (ty_TRights.fl x8) rfl) ?_
    refine S.effN rfl rfl (.nf (H2 := [.cells (E_TRights x8), .cells (E_TRights x8)]) (.storeP sz26 (lk 2 rfl rfl) (lk 0 rfl rfl) rfl (.refl _) rfl .nil (by first | rfl | omega) .nil (ty_TRights.fl x8) (ty_TRights.fl (default : TRights)) rfl) rfl rfl) trivial ?_
    refine S.nil ?_
    refine thenQ_n ?_
    refine AWp.ret ?_
    refine endF_wk (Wk.freeze 1 rfl rfl (.cons (lk 2 rfl rfl) rfl (.ptr .nil (by first | rfl | omega)) .nil) (.refl _)) ?_
    obtain rfl := h.ret
    exact endF1 rfl (Wk.selS [] .nil rfl (SelE.leaf (lk 0 rfl rfl) rfl (.refl _) (fun m => (lt_cptr (ty_TRights.lt _ _))) .nil) .nil) (.cellC sz26 ag26 (lk 0 rfl rfl) (ty_TRights.fl _) rfl) rfl rfl
theorem C_usufructref04_Join {a1 : TCounter} {a2 : TCounter} {r : TCounter × Int} (h : usufructref04_Join a1 a2 = some r) : PureC Pg 54 [E_TCounter a1, E_TCounter a2] (.tup [E_TCounter r.1, (V.int .i64) r.2]) := by
  refine PureC.ofF (CallSpec.of_bodyF 39 0 fn54 rfl rfl rfl (Nat.le_of_ble_eq_true rfl) ?_) (ltL_c (ty_TCounter.lt _ _) (ltL_c (ty_TCounter.lt _ _) ltL_nil)) (lt_tup (ltL_c (ty_TCounter.lt _ _) (ltL_c ((TyOk.int .i64).lt _ _) ltL_nil)))
  replace h := Ok.of h
  unfold usufructref04_Join at h
  refine AWp.seq ?_
  refine W.reg [0, 1, 2, 3] rfl ?_
  refine S.eff 2 rfl rfl (.nf (v2 := .ptr 0 [] 0) (H2 := [.cells (E_TCounter a1)]) (.box (lk 0 rfl rfl) rfl) rfl rfl) trivial ?_
  refine S.eff 3 rfl rfl (.nf (v2 := .ptr 1 [] 0) (H2 := [.cells (E_TCounter a1), .cells (E_TCounter a2)]) (.box (lk 2 rfl rfl) rfl) rfl rfl) trivial ?_
  refine S.eff 4 rfl rfl (.nf (v2 := .ptr 2 [] 0) (H2 := [.cells (E_TCounter a1), .cells (E_TCounter a2), .cells (E_TCounter (default : TCounter))]) (.alloc zv28) rfl rfl) trivial ?_
  refine S.sil 5 rfl rfl (fun _ hF => .assign cI) ?_
  refine S.nil ?_
  refine thenQ_n ?_
  refine AWp.wk (Wk.freeze 1 rfl rfl (.same (lk 0 rfl rfl) (.same (lk 1 rfl rfl) (.cons (lk 2 rfl rfl) rfl (.ptr .nil (by first | rfl | omega)) (.same (lk 3 rfl rfl) .nil)))) (.refl _)) ?_
  refine AWp.seq ?_
  refine AWp.seq ?_
  refine W.reg [0, 1, 2, 3, 4, 5, 6, 7, 8, 9, 10, 11, 12, 13, 14, 15, 16, 17, 18] rfl ?_
  refine S.sil 6 rfl rfl (fun _ hF => .fieldAddr lay28 rfl rfl (lk 3 rfl rfl)) ?_
  refine S.qui 7 rfl rfl (fun _ => .loadP sz3 ag3 (lk 0 rfl rfl) rfl (.st rfl flL_nil .nil) (by first | rfl | omega) rfl rfl) ?_
  refine S.sil 8 rfl rfl (fun _ hF => .fieldAddrC lay28 rfl rfl (lk 4 rfl rfl) rfl flL_nil) ?_
  refine S.sil 9 rfl rfl (fun _ hF => .loadC sz3 ag3 (lk 0 rfl rfl) rfl rfl) ?_
  refine S.sil 10 rfl rfl (fun _ hF => .neq (lk 2 rfl rfl) (lk 0 rfl rfl)) ?_
  refine S.sil 11 rfl rfl (fun _ hF => .move (lk 0 rfl rfl)) ?_
  refine S.gsil 12 5 11 false rfl rfl rfl (lk 0 rfl rfl) (fun hB _ hF => .fieldAddr lay28 rfl rfl (lk 9 rfl rfl)) ?_
  refine S.gqui 13 5 11 false rfl rfl rfl (lk 1 rfl rfl) (fun hB _ => .loadP sz3 ag3 (ifT hB (lk 0 rfl rfl)) rfl (.st rfl (flL_c (show flen _ = 1 from rfl) flL_nil) .nil) (by first | rfl | omega) rfl rfl) ?_
  refine S.gsil 14 5 11 false rfl rfl rfl (lk 2 rfl rfl) (fun hB _ hF => .fieldAddrC lay28 rfl rfl (lk 10 rfl rfl) rfl (flL_c (show flen _ = 1 from rfl) flL_nil)) ?_
  refine S.gsil 15 5 11 false rfl rfl rfl (lk 3 rfl rfl) (fun hB _ hF => .loadC sz3 ag3 (ifT hB (lk 0 rfl rfl)) rfl rfl) ?_
  refine S.gsil 16 5 11 false rfl rfl rfl (lk 4 rfl rfl) (fun hB _ hF => .neq (ifT hB (lk 2 rfl rfl)) (ifT hB (lk 0 rfl rfl))) ?_
  refine S.sil 17 rfl rfl (fun _ hF => .pickOr (lk 5 rfl rfl) cB (fun h => ifT h (lk 0 rfl rfl))) ?_
  refine S.sil 18 rfl rfl (fun _ hF => .move (lk 0 rfl rfl)) ?_
  refine S.gsil 19 12 18 false rfl rfl rfl (lk 0 rfl rfl) (fun hB _ hF => .fieldAddr lay28 rfl rfl (lk 16 rfl rfl)) ?_
  refine S.gqui 20 12 18 false rfl rfl rfl (lk 1 rfl rfl) (fun hB _ => .loadP sz3 ag3 (ifT hB (lk 0 rfl rfl)) rfl (.st rfl (flL_c (show flen _ = 1 from rfl) (flL_c (show flen _ = 1 from rfl) flL_nil)) .nil) (by first | rfl | omega) rfl rfl) ?_
  refine S.gsil 21 12 18 false rfl rfl rfl (lk 2 rfl rfl) (fun hB _ hF => .fieldAddrC lay28 rfl rfl (lk 17 rfl rfl) rfl (flL_c (show flen _ = 1 from rfl) (flL_c (show flen _ = 1 from rfl) flL_nil))) ?_
  refine S.gsil 22 12 18 false rfl rfl rfl (lk 3 rfl rfl) (fun hB _ hF => .loadC sz3 ag3 (ifT hB (lk 0 rfl rfl)) rfl rfl) ?_
  refine S.gsil 23 12 18 false rfl rfl rfl (lk 4 rfl rfl) (fun hB _ hF => .neq (ifT hB (lk 2 rfl rfl)) (ifT hB (lk 0 rfl rfl))) ?_
  obtain ⟨v3, ev3, h⟩ := h.nam
  refine S.sil 24 rfl rfl (fun _ hF => .nv (.pickOr (lk 5 rfl rfl) cB (fun h => ifT h (lk 0 rfl rfl))) (congrArg V.bool ev3.symm)) ?_
  refine S.nil ?_
  refine thenQ_n ?_
  refine AWp.prune (.eq (lk 0 rfl rfl) rfl (.eq (lk 19 rfl rfl) rfl (.eq (lk 20 rfl rfl) rfl (.eq (lk 21 rfl rfl) rfl (.eq (lk 22 rfl rfl) rfl .nil))))) ?_
  refine AWp.condM (lk 0 rfl rfl) h (fun c1 h => ?_) (fun c1 h => ?_)
  · skip
    refine AWp.seq ?_
    refine W.reg [0, 1, 2] rfl ?_
    obtain ⟨v4, ev4, h⟩ := h.nam
    refine S.sil 25 rfl rfl (fun _ hF => .nv (.nv (v2 := E_TCounter (⟨0, 0, 0, (default : TRights), (default : TRights)⟩ : TCounter)) (.buildStW lay28 zv28 rfl .nil) rfl) (congrArg E_TCounter ev4.symm)) ?_
    refine S.effN rfl rfl (.nf (H2 := [.cells (E_TCounter a1), .dead, .cells (E_TCounter v4)]) (.storeP sz28 (lk 3 rfl rfl) (lk 0 rfl rfl) rfl (.refl _) rfl .nil (by first | rfl | omega) .nil (ty_TCounter.fl v4) (ty_TCounter.fl (default : TCounter)) rfl) rfl rfl) trivial ?_
    refine S.sil 5 rfl rfl (fun _ hF => .assign cI) ?_
    refine S.nil ?_
    refine thenQ_n ?_
    refine AWp.ret ?_
    refine thenQ_r ?_
    refine endF_wk (Wk.freeze 2 rfl rfl (.same (lk 0 rfl rfl) (.same (lk 0 rfl rfl) (.cons (lk 4 rfl rfl) rfl (.ptr .nil (by first | rfl | omega)) .nil))) (.refl _)) ?_
    obtain rfl := h.ret
    exact endFN rfl (Wk.selS [] .nil rfl (SelE.leaf (lk 2 rfl rfl) rfl (.refl _) (fun m => (lt_cptr (ty_TCounter.lt _ _))) (SelE.leaf (lk 0 rfl rfl) rfl (.refl _) (fun m => ((TyOk.int .i64).lt _ _)) .nil)) .nil) (.cons (.cellC sz28 ag28 (lk 0 rfl rfl) (ty_TCounter.fl _) rfl) (.cons (.tmp (lk 1 rfl rfl) rfl) .nil)) rfl rfl rfl
  · skip
    refine AWp.skip ?_
    refine thenQ_n ?_
    refine AWp.seq ?_
    refine W.reg [0, 1, 2, 3, 4, 5, 6] rfl ?_
    refine S.sil 26 rfl rfl (fun _ hF => .fieldAddr lay28 rfl rfl (lk 4 rfl rfl)) ?_
    refine S.qui 27 rfl rfl (fun _ => .loadP sz26 ag26 (lk 0 rfl rfl) rfl (.st rfl (flL_c (show flen _ = 1 from rfl) (flL_c (show flen _ = 1 from rfl) (flL_c (show flen _ = 1 from rfl) flL_nil))) .nil) (by first | rfl | omega) (ty_TRights.fl a1.Down) rfl) ?_
    refine S.sil 28 rfl rfl (fun _ hF => .fieldAddrC lay28 rfl rfl (lk 5 rfl rfl) rfl (flL_c (show flen _ = 1 from rfl) (flL_c (show flen _ = 1 from rfl) (flL_c (show flen _ = 1 from rfl) flL_nil)))) ?_
    refine S.sil 29 rfl rfl (fun _ hF => .loadC sz26 ag26 (lk 0 rfl rfl) (ty_TRights.fl a2.Down) rfl) ?_
    obtain ⟨r5, m5, h⟩ := h.bnd
    refine S.sil 30 rfl rfl (fun _ hF => .callQ ent104 cF (.c (lk 2 rfl rfl) (V.sub.refl _) (.c (lk 0 rfl rfl) (V.sub.refl _) .nil)) (C_usufructref03_Join m5)) ?_
    refine S.sil 31 rfl rfl (fun _ hF => .fieldAddr lay28 rfl rfl (lk 9 rfl rfl)) ?_
    obtain ⟨v6, ev6, h⟩ := h.nam
    refine S.effN rfl rfl (.nf (H2 := [.cells (E_TCounter v6), .dead, .cells (E_TCounter (default : TCounter))]) (.storeP sz26 (lk 0 rfl rfl) (lk 1 rfl rfl) rfl (.refl _) rfl (.st rfl (flL_c (show flen _ = 1 from rfl) (flL_c (show flen _ = 1 from rfl) (flL_c (show flen _ = 1 from rfl) flL_nil))) .nil) (by first | rfl | omega) (.st rfl .nil rfl) (ty_TRights.fl r5) (ty_TRights.fl a1.Down) (congrArg (fun z => ([AObj.cells (E_TCounter z), .dead, .cells (E_TCounter (default : TCounter))] : List AObj)) ev6.symm)) rfl rfl) trivial ?_
    refine S.nil ?_
    refine thenQ_n ?_
    refine AWp.seq ?_
    refine W.reg [0, 1, 2, 3, 4, 5, 6] rfl ?_
    refine S.sil 32 rfl rfl (fun _ hF => .fieldAddr lay28 rfl rfl (lk 10 rfl rfl)) ?_
    refine S.qui 33 rfl rfl (fun _ => .loadP sz26 ag26 (lk 0 rfl rfl) rfl (.st rfl (flL_c (show flen _ = 1 from rfl) (flL_c (show flen _ = 1 from rfl) (flL_c (show flen _ = 1 from rfl) (flL_c (ty_TRights.fl v6.Down) flL_nil)))) .nil) (by first | rfl | omega) (ty_TRights.fl v6.Up) rfl) ?_
    refine S.sil 34 rfl rfl (fun _ hF => .fieldAddrC lay28 rfl rfl (lk 11 rfl rfl) rfl (flL_c (show flen _ = 1 from rfl) (flL_c (show flen _ = 1 from rfl) (flL_c (show flen _ = 1 from rfl) (flL_c (ty_TRights.fl a2.Down) flL_nil))))) ?_
    refine S.sil 35 rfl rfl (fun _ hF => .loadC sz26 ag26 (lk 0 rfl rfl) (ty_TRights.fl a2.Up) rfl) ?_
    obtain ⟨r7, m7, h⟩ := h.bnd
    refine S.sil 36 rfl rfl (fun _ hF => .callQ ent104 cF (.c (lk 2 rfl rfl) (V.sub.refl _) (.c (lk 0 rfl rfl) (V.sub.refl _) .nil)) (C_usufructref03_Join m7)) ?_
    refine S.sil 37 rfl rfl (fun _ hF => .fieldAddr lay28 rfl rfl (lk 15 rfl rfl)) ?_
    obtain ⟨v8, ev8, h⟩ := h.nam
    refine S.effN rfl rfl (.nf (H2 := [.cells (E_TCounter v8), .dead, .cells (E_TCounter (default : TCounter))]) (.storeP sz26 (lk 0 rfl rfl) (lk 1 rfl rfl) rfl (.refl _) rfl (.st rfl (flL_c (show flen _ = 1 from rfl) (flL_c (show flen _ = 1 from rfl) (flL_c (show flen _ = 1 from rfl) (flL_c (ty_TRights.fl v6.Down) flL_nil)))) .nil) (by first | rfl | omega) (.st rfl .nil rfl) (ty_TRights.fl r7) (ty_TRights.fl v6.Up) (congrArg (fun z => ([AObj.cells (E_TCounter z), .dead, .cells (E_TCounter (default : TCounter))] : List AObj)) ev8.symm)) rfl rfl) trivial ?_
    refine S.nil ?_
    refine thenQ_n ?_
    refine AWp.prune (.eq (lk 13 rfl rfl) rfl (.eq (lk 14 rfl rfl) rfl (.eq (lk 16 rfl rfl) rfl .nil))) ?_
    refine AWp.seq ?_
    refine W.reg [0, 1, 2] rfl ?_
    refine S.qui 38 rfl rfl (fun _ => .loadP sz28 ag28 (lk 2 rfl rfl) rfl .nil (by first | rfl | omega) (ty_TCounter.fl v8) rfl) ?_
    refine S.effN rfl rfl (.nf (H2 := [.cells (E_TCounter v8), .dead, .cells (E_TCounter v8)]) (.storeP sz28 (lk 2 rfl rfl) (lk 0 rfl rfl) rfl (.refl _) rfl .nil (by first | rfl | omega) .nil (ty_TCounter.fl v8) (ty_TCounter.fl (default : TCounter)) rfl) rfl rfl) trivial ?_
    refine S.sil 5 rfl rfl (fun _ hF => .assign cI) ?_
    refine S.nil ?_
    refine thenQ_n ?_
    refine AWp.ret ?_
    refine endF_wk (Wk.freeze 2 rfl rfl (.same (lk 0 rfl rfl) (.same (lk 0 rfl rfl) (.cons (lk 3 rfl rfl) rfl (.ptr .nil (by first | rfl | omega)) .nil))) (.refl _)) ?_
    obtain rfl := h.ret
    exact endFN rfl (Wk.selS [] .nil rfl (SelE.leaf (lk 2 rfl rfl) rfl (.refl _) (fun m => (lt_cptr (ty_TCounter.lt _ _))) (SelE.leaf (lk 0 rfl rfl) rfl (.refl _) (fun m => ((TyOk.int .i64).lt _ _)) .nil)) .nil) (.cons (.cellC sz28 ag28 (lk 0 rfl rfl) (ty_TCounter.fl _) rfl) (.cons (.tmp (lk 1 rfl rfl) rfl) .nil)) rfl rfl rfl
theorem C_usufructref06_Put_own {a1 : List THold} {a2 : THold} {r : (List THold)} (h : usufructref06_Put_own a1 a2 = some r) : CallSpec Pg 59 [.sl 5 .no (List.map E_THold a1), E_THold a2] [] fun o H' => o = .ret (.slo 5 0 [] 0 0 r.length 1) ∧ H' = [.buf 5 (List.map E_THold r)] := by
  refine CallSpec.of_bodyF 35 0 fn59 rfl rfl rfl (Nat.le_of_ble_eq_true rfl) ?_
  replace h := Ok.of h
  unfold usufructref06_Put_own at h
  refine AWp.seq ?_
  refine W.reg [0, 1] rfl ?_
  refine S.eff 3 rfl rfl (.nf (v2 := .ptr 0 [] 0) (H2 := [.cells (E_THold a2)]) (.box (lk 1 rfl rfl) rfl) rfl rfl) trivial ?_
  refine S.sil 4 rfl rfl (fun _ hF => .assign cNs) ?_
  refine S.nil ?_
  refine thenQ_n ?_
  refine AWp.wk (Wk.freeze 0 rfl rfl (.same (lk 0 rfl rfl) (.cons (lk 1 rfl rfl) rfl (.ptr .nil (by first | rfl | omega)) (.same (lk 2 rfl rfl) .nil))) (.refl _)) ?_
  refine AWp.seq ?_
  refine W.reg [0] rfl ?_
  refine S.sil 5 rfl rfl (fun _ hF => .assign cI) ?_
  refine S.nil ?_
  refine thenQ_n ?_
  refine AWp.seq ?_
  refine AWp.cutX (fun x5 => ⟨[(5, (V.int .i64) x5), (4, .nils), (3, .cptr (E_THold a2)), (0, .sl 5 .no (List.map E_THold a1))], []⟩) nc_then h (fun q3 hq3 => ?_) (fun x5 h => ?_)
  · refine AWp.block ?_
    refine AWp.loopT (fun s4 => ⟨[(5, (V.int .i64) s4), (4, .nils), (3, .cptr (E_THold a2)), (0, .sl 5 .no (List.map E_THold a1))], []⟩) hq3 (Wk.selS [] (by decide) rfl (SelE.leaf (lk 0 rfl rfl) rfl (.refl _) (fun m => ((TyOk.int .i64).lt _ _)) (SelE.leaf (lk 1 rfl rfl) rfl (.refl _) (fun m => rfl) (SelE.leaf (lk 2 rfl rfl) rfl (.refl _) (fun m => (lt_cptr (ty_THold.lt _ _))) (SelE.leaf (lk 3 rfl rfl) rfl (.refl _) (fun m => (lt_sl rfl (ty_THold.ltm _ _))) .nil)))) .nil) (fun _ s4 h3 => ?_)
    rw [usufructref06_Put_own_L1] at h3
    refine AWp.seq ?_
    refine AWp.seq ?_
    refine W.regD [0, 1, 2, 3, 4, 5, 6, 7, 8, 9, 10, 11] mixed ?_
    refine S.sil 7 rfl rfl (fun _ hF => .move (lk 0 rfl rfl)) ?_
    refine S.sil 8 rfl rfl (fun _ hF => .move (lk 4 rfl rfl)) ?_
    refine S.sil 9 rfl rfl (fun _ hF => .lenT sli31 (lk 0 rfl rfl) (vsub rfl (.refl _))) ?_
    refine S.sil 10 rfl rfl (fun _ hF => .lss (lk 2 rfl rfl) (lk 0 rfl rfl)) ?_
    refine S.sil 11 rfl rfl (fun _ hF => .move (lk 0 rfl rfl)) ?_
    refine S.gsil 12 4 11 true rfl rfl rfl (lk 0 rfl rfl) (fun hB _ hF => .move (lk 8 rfl rfl)) ?_
    refine S.gsil 13 4 11 true rfl rfl rfl (lk 1 rfl rfl) (fun hB _ hF => .move (lk 6 rfl rfl)) ?_
    obtain ⟨j6, m6, h3⟩ := h3.bnd
    refine S.gsil 14 4 11 true rfl rfl rfl (lk 2 rfl rfl) (fun hB _ hF => .ixS sli31 (ifT hB (lk 1 rfl rfl)) (ifT hB (lk 0 rfl rfl)) (gd_get m6 hB)) ?_
    refine S.gsil 15 4 11 true rfl rfl rfl (lk 3 rfl rfl) (fun hB _ hF => .loadC sz66 ag66 (ifT hB (lk 0 rfl rfl)) (ty_THold.fl (a1.getD j6 default)) rfl) ?_
    refine S.gsil 16 4 11 true rfl rfl rfl (lk 4 rfl rfl) (fun hB _ hF => .loadC sz66 ag66 (lk 11 rfl rfl) (ty_THold.fl a2) rfl) ?_
    obtain ⟨r7, m7, h3⟩ := h3.bnd
    refine S.gsil 17 4 11 true rfl rfl rfl (lk 5 rfl rfl) (fun hB _ hF => .callQ ent82 cF (.c (ifT hB (lk 1 rfl rfl)) (V.sub.refl _) (.c (ifT hB (lk 0 rfl rfl)) (V.sub.refl _) .nil)) (C_usufructref06_Ahead (gd_get m7 hB))) ?_
    refine S.sil 18 rfl rfl (fun _ hF => .pickAnd (lk 6 rfl rfl) (fun h => ifT h (lk 0 rfl rfl)) cB) ?_
    refine S.nilD (by kernel_rfl) ?_
    refine thenQ_n ?_
    refine AWp.condM (lk 0 rfl rfl) h3 (fun c1 h3 => ?_) (fun c1 h3 => ?_)
    · skip
      refine AWp.skip ?_
      refine thenQ_n ?_
      refine AWp.block ?_
      refine W.reg [0, 1, 2] rfl ?_
      refine S.sil 19 rfl rfl (fun _ hF => .move (lk 12 rfl rfl)) ?_
      refine S.sil 20 rfl rfl (fun _ hF => .add (lk 0 rfl rfl) cI) ?_
      refine S.sil 5 rfl rfl (fun _ hF => .assign (lk 0 rfl rfl)) ?_
      refine S.nil ?_
      refine blockQ_n ?_
      refine thenQ_n ?_
      exact ⟨_, h3.ret, (Wk.selS [] (by decide) rfl (SelE.leaf (lk 0 rfl rfl) rfl (.refl _) (fun m => ((TyOk.int .i64).lt _ _)) (SelE.leaf (lk 16 rfl rfl) rfl (.refl _) (fun m => rfl) (SelE.leaf (lk 17 rfl rfl) rfl (.refl _) (fun m => (lt_cptr (ty_THold.lt _ _))) (SelE.leaf (lk 18 rfl rfl) rfl (.refl _) (fun m => (lt_sl rfl (ty_THold.ltm _ _))) .nil)))) .nil)⟩
    · skip
      refine AWp.exit ?_
      refine thenQ_x ?_
      refine thenQ_x ?_
      refine blockQ_x ?_
      refine thenQ_n ?_
      exact ⟨_, h3.ret, (Wk.selS [] (by decide) rfl (SelE.leaf (lk 12 rfl rfl) rfl (.refl _) (fun m => ((TyOk.int .i64).lt _ _)) (SelE.leaf (lk 13 rfl rfl) rfl (.refl _) (fun m => rfl) (SelE.leaf (lk 14 rfl rfl) rfl (.refl _) (fun m => (lt_cptr (ty_THold.lt _ _))) (SelE.leaf (lk 15 rfl rfl) rfl (.refl _) (fun m => (lt_sl rfl (ty_THold.ltm _ _))) .nil)))) .nil)⟩
  · skip
    refine thenQ_n ?_
    refine AWp.seq ?_
    refine W.reg [0, 1, 2, 3, 4, 5] rfl ?_
    refine S.sil 21 rfl rfl (fun _ hF => .buildSliceW sli31 zv66 rfl rfl (by decide) .nil) ?_
    refine S.sil 22 rfl rfl (fun _ hF => .move (lk 4 rfl rfl)) ?_
    refine S.sil 23 rfl rfl (fun _ hF => .move (lk 2 rfl rfl)) ?_
    obtain ⟨l8, m8, h⟩ := h.bnd
    refine S.sil 24 rfl rfl (fun _ hF => .slice_nsn sli31 (lk 1 rfl rfl) (lk 0 rfl rfl) m8) ?_
    obtain ⟨l9, m9, h⟩ := h.bnd
    refine S.eff 25 rfl rfl (.nf (v2 := .slo 5 0 [] 0 0 l9.length 1) (H2 := [.buf 5 (List.map E_THold l9)]) (.appNewT sli31 und31 zv66 rfl (by decide) (lk 3 rfl rfl) (V.sub.refl _) (lk 0 rfl rfl) Rd.sl m9 rfl) rfl rfl) trivial ?_
    refine S.sil 6 rfl rfl (fun _ hF => .assign (lk 0 rfl rfl)) ?_
    refine S.nil ?_
    refine thenQ_n ?_
    refine AWp.seq ?_
    refine W.reg [0, 1, 2, 3, 4] rfl ?_
    refine S.sil 26 rfl rfl (fun _ hF => .move (lk 0 rfl rfl)) ?_
    refine S.sil 27 rfl rfl (fun _ hF => .loadC sz66 ag66 (lk 9 rfl rfl) (ty_THold.fl a2) rfl) ?_
    refine S.sil 28 rfl rfl (fun _ hF => .buildSliceW sli31 zv66 rfl rfl (by decide) (.cons (lk 0 rfl rfl) rfl (.refl _) (ty_THold.fl a2) .nil)) ?_
    obtain ⟨l10, m10, h⟩ := h.bnd
    refine S.eff 29 rfl rfl (.nf (v2 := .slo 5 1 [] 0 0 l10.length 1) (H2 := [.dead, .buf 5 (List.map E_THold l10)]) (.appOwnT sli31 und31 zv66 rfl (by decide) (lk 2 rfl rfl) rfl (by first | rfl | simp) (lk 0 rfl rfl) Rd.sl m10 rfl) rfl rfl) trivial ?_
    refine S.sil 6 rfl rfl (fun _ hF => .assign (lk 0 rfl rfl)) ?_
    refine S.nil ?_
    refine thenQ_n ?_
    refine AWp.prune (.eq (lk 0 rfl rfl) rfl (.eq (lk 11 rfl rfl) rfl (.eq (lk 12 rfl rfl) rfl (.eq (lk 14 rfl rfl) rfl .nil)))) ?_
    refine AWp.seq ?_
    refine W.reg [0, 1, 2, 3, 4, 5] rfl ?_
    refine S.sil 30 rfl rfl (fun _ hF => .move (lk 0 rfl rfl)) ?_
    refine S.sil 31 rfl rfl (fun _ hF => .move (lk 4 rfl rfl)) ?_
    refine S.sil 32 rfl rfl (fun _ hF => .move (lk 3 rfl rfl)) ?_
    obtain ⟨l11, m11, h⟩ := h.bnd
    refine S.sil 33 rfl rfl (fun _ hF => .slice_snn sli31 (lk 1 rfl rfl) (lk 0 rfl rfl) m11) ?_
    obtain ⟨l12, m12, h⟩ := h.bnd
    refine S.eff 34 rfl rfl (.nf (v2 := .slo 5 2 [] 0 0 l12.length 1) (H2 := [.dead, .dead, .buf 5 (List.map E_THold l12)]) (.appOwnT sli31 und31 zv66 rfl (by decide) (lk 3 rfl rfl) rfl (by first | rfl | simp) (lk 0 rfl rfl) Rd.sl m12 rfl) rfl rfl) trivial ?_
    refine S.sil 4 rfl rfl (fun _ hF => .assign (lk 0 rfl rfl)) ?_
    refine S.nil ?_
    refine thenQ_n ?_
    refine AWp.ret ?_
    obtain rfl := h.ret
    exact endF1 rfl (Wk.selS [2] (by decide) rfl (SelE.spec (v := .slo 5 0 [] 0 0 l12.length 1) (lk 0 rfl rfl) rfl (.slo (by first | rfl | simp)) rfl rfl .nil) (.cons (lt_buf (xs := l12) ty_THold) rfl ⟨rfl, RSubL.leafr ty_THold _ rfl⟩ .nil)) (.tmp (lk 0 rfl rfl) rfl) rfl rfl
theorem C_usufructref06_Join {a1 : List THold} {a2 : List THold} {r : (List THold) × Int} (h : usufructref06_Join a1 a2 = some r) : PureC Pg 28 [.sl 5 .no (List.map E_THold a1), .sl 5 .no (List.map E_THold a2)] (.tup [E_S_THold r.1, (V.int .i64) r.2]) := by
  refine PureC.ofF (CallSpec.of_bodyF 109 0 fn28 rfl rfl rfl (Nat.le_of_ble_eq_true rfl) ?_) (ltL_c (lt_sl rfl (ty_THold.ltm _ _)) (ltL_c (lt_sl rfl (ty_THold.ltm _ _)) ltL_nil)) (lt_tup (ltL_c (ty_S_THold.lt _ _) (ltL_c ((TyOk.int .i64).lt _ _) ltL_nil)))
  replace h := Ok.of h
  unfold usufructref06_Join at h
  refine AWp.seq ?_
  refine W.reg [0, 1] rfl ?_
  refine S.sil 4 rfl rfl (fun _ hF => .assign cNs) ?_
  refine S.sil 5 rfl rfl (fun _ hF => .assign cI) ?_
  refine S.nil ?_
  refine thenQ_n ?_
  refine AWp.seq ?_
  refine AWp.seq ?_
  refine W.reg [0, 1, 2, 3, 4, 5, 6, 7] rfl ?_
  refine S.sil 10 rfl rfl (fun _ hF => .move (lk 2 rfl rfl)) ?_
  obtain ⟨r3, m3, h⟩ := h.bnd
  refine S.sil 11 rfl rfl (fun _ hF => .callQ ent42 cF (.c (lk 0 rfl rfl) (V.sub.refl _) .nil) (C_usufructref06_Rights m3)) ?_
  refine S.sil 12 rfl rfl (fun _ hF => .not (lk 0 rfl rfl)) ?_
  refine S.sil 13 rfl rfl (fun _ hF => .move (lk 0 rfl rfl)) ?_
  refine S.gsil 14 3 13 false rfl rfl rfl (lk 0 rfl rfl) (fun hB _ hF => .move (lk 7 rfl rfl)) ?_
  obtain ⟨r4, m4, h⟩ := h.bnd
  refine S.gsil 15 3 13 false rfl rfl rfl (lk 1 rfl rfl) (fun hB _ hF => .callQ ent42 cF (.c (ifT hB (lk 0 rfl rfl)) (V.sub.refl _) .nil) (C_usufructref06_Rights (gd_get m4 hB))) ?_
  refine S.gsil 16 3 13 false rfl rfl rfl (lk 2 rfl rfl) (fun hB _ hF => .not (ifT hB (lk 0 rfl rfl))) ?_
  refine S.sil 17 rfl rfl (fun _ hF => .pickOr (lk 3 rfl rfl) cB (fun h => ifT h (lk 0 rfl rfl))) ?_
  refine S.nil ?_
  refine thenQ_n ?_
  refine AWp.condM (lk 0 rfl rfl) h (fun c1 h => ?_) (fun c1 h => ?_)
  · skip
    refine AWp.seq ?_
    refine W.reg [0, 1] rfl ?_
    refine S.sil 4 rfl rfl (fun _ hF => .assign cNs) ?_
    refine S.sil 5 rfl rfl (fun _ hF => .assign cI) ?_
    refine S.nil ?_
    refine thenQ_n ?_
    refine AWp.prune (.eq (lk 0 rfl rfl) rfl (.eq (lk 1 rfl rfl) rfl (.eq (lk 12 rfl rfl) rfl (.eq (lk 13 rfl rfl) rfl .nil)))) ?_
    refine AWp.ret ?_
    refine thenQ_r ?_
    obtain rfl := h.ret
    exact endFN rfl (Wk.selS [] .nil rfl (SelE.leaf (lk 1 rfl rfl) rfl (.nils_no _) (fun m => (ty_S_THold.lt ([] : List THold) _)) (SelE.leaf (lk 0 rfl rfl) rfl (.refl _) (fun m => ((TyOk.int .i64).lt _ _)) .nil)) .nil) (.cons (.tmp (lk 0 rfl rfl) rfl) (.cons (.tmp (lk 1 rfl rfl) rfl) .nil)) rfl rfl rfl
  · skip
    refine AWp.skip ?_
    refine thenQ_n ?_
    refine AWp.seq ?_
    refine W.reg [0, 1, 2, 3] rfl ?_
    refine S.sil 18 rfl rfl (fun _ hF => .buildSliceW sli31 zv66 rfl rfl (by decide) .nil) ?_
    refine S.sil 19 rfl rfl (fun _ hF => .move (lk 11 rfl rfl)) ?_
    obtain ⟨l5, m5, h⟩ := h.bnd
    refine S.eff 20 rfl rfl (.nf (v2 := .slo 5 0 [] 0 0 l5.length 1) (H2 := [.buf 5 (List.map E_THold l5)]) (.appNewT sli31 und31 zv66 rfl (by decide) (lk 1 rfl rfl) (V.sub.refl _) (lk 0 rfl rfl) Rd.sl m5 rfl) rfl rfl) trivial ?_
    refine S.sil 6 rfl rfl (fun _ hF => .assign (lk 0 rfl rfl)) ?_
    refine S.nil ?_
    refine thenQ_n ?_
    refine AWp.prune (.eq (lk 0 rfl rfl) rfl (.eq (lk 12 rfl rfl) rfl (.eq (lk 13 rfl rfl) rfl (.eq (lk 15 rfl rfl) rfl .nil)))) ?_
    refine AWp.seq ?_
    refine AWp.seq ?_
    refine W.reg [0] rfl ?_
    refine S.sil 7 rfl rfl (fun _ hF => .assign cI) ?_
    refine S.nil ?_
    refine thenQ_n ?_
    refine AWp.cutL (fun x8 => ⟨[(6, .slo 5 0 [] 0 0 x8.length 1), (5, (V.int .i64) 0), (4, .nils)], [.buf 5 (List.map E_THold x8)]⟩) nc_then h (fun q6 hq6 h => ?_) (fun x8 h => ?_)
    · refine AWp.block ?_
      refine AWp.loopT (fun s7 => ⟨[(7, (V.int .i64) s7.1), (6, .slo 5 0 [] 0 0 s7.2.length 1), (5, (V.int .i64) 0), (4, .nils), (1, .sl 5 .no (List.map E_THold a2))], [.buf 5 (List.map E_THold s7.2)]⟩) hq6 (Wk.selS [0] (by decide) rfl (SelE.leaf (lk 0 rfl rfl) rfl (.refl _) (fun m => ((TyOk.int .i64).lt _ _)) (SelE.spec (lk 1 rfl rfl) rfl (.slo (by first | rfl | simp)) rfl rfl (SelE.leaf (lk 2 rfl rfl) rfl (.refl _) (fun m => ((TyOk.int .i64).lt _ _)) (SelE.leaf (lk 3 rfl rfl) rfl (.refl _) (fun m => rfl) (SelE.leaf (lk 4 rfl rfl) rfl (.refl _) (fun m => (lt_sl rfl (ty_THold.ltm _ _))) .nil))))) (.cons (lt_buf ty_THold) rfl ⟨rfl, RSubL.leafr ty_THold _ rfl⟩ .nil)) (fun _ s7 h6 => ?_)
      rw [usufructref06_Join_L1] at h6
      refine AWp.seq ?_
      refine AWp.seq ?_
      refine W.reg [0, 1, 2, 3] rfl ?_
      refine S.sil 21 rfl rfl (fun _ hF => .move (lk 0 rfl rfl)) ?_
      refine S.sil 22 rfl rfl (fun _ hF => .move (lk 5 rfl rfl)) ?_
      refine S.sil 23 rfl rfl (fun _ hF => .lenT sli31 (lk 0 rfl rfl) (vsub rfl (.refl _))) ?_
      refine S.sil 24 rfl rfl (fun _ hF => .lss (lk 2 rfl rfl) (lk 0 rfl rfl)) ?_
      refine S.nil ?_
      refine thenQ_n ?_
      refine AWp.condM (lk 0 rfl rfl) h6 (fun c2 h6 => ?_) (fun c2 h6 => ?_)
      · skip
        refine AWp.skip ?_
        refine thenQ_n ?_
        refine AWp.seq ?_
        refine AWp.block ?_
        refine AWp.seq ?_
        refine W.reg [0] rfl ?_
        refine S.sil 8 rfl rfl (fun _ hF => .assign cI) ?_
        refine S.nil ?_
        refine thenQ_n ?_
        refine AWp.seq ?_
        refine AWp.seq ?_
        refine W.reg [0] rfl ?_
        refine S.sil 9 rfl rfl (fun _ hF => .assign cI) ?_
        refine S.nil ?_
        refine thenQ_n ?_
        refine AWp.cutX (fun x11 => ⟨[(30, V.bool x11.1), (29, (V.int .i64) ((s7.2.length : Nat) : Int)), (28, .slo 5 0 [] 0 0 s7.2.length 1), (27, (V.int .i64) x11.2.1), (9, (V.int .i64) x11.2.2.1), (8, (V.int .i64) x11.2.2.2), (24, V.bool (decide (s7.1 < (a2.length : Int)))), (23, (V.int .i64) (a2.length : Int)), (22, .sl 5 .no (List.map E_THold a2)), (21, (V.int .i64) s7.1), (7, (V.int .i64) s7.1), (6, .slo 5 0 [] 0 0 s7.2.length 1), (5, (V.int .i64) 0), (4, .nils), (1, .sl 5 .no (List.map E_THold a2))], [.buf 5 (List.map E_THold s7.2)]⟩) nc_then h6 (fun q9 hq9 => ?_) (fun x11 h6 => ?_)
        · refine AWp.block ?_
          refine AWp.loopT (fun s10 => ⟨[(9, (V.int .i64) s10.1), (8, (V.int .i64) s10.2), (24, V.bool (decide (s7.1 < (a2.length : Int)))), (23, (V.int .i64) (a2.length : Int)), (22, .sl 5 .no (List.map E_THold a2)), (21, (V.int .i64) s7.1), (7, (V.int .i64) s7.1), (6, .slo 5 0 [] 0 0 s7.2.length 1), (5, (V.int .i64) 0), (4, .nils), (1, .sl 5 .no (List.map E_THold a2))], [.buf 5 (List.map E_THold s7.2)]⟩) hq9 (Wk.selS [0] (by decide) rfl (SelE.leaf (lk 0 rfl rfl) rfl (.refl _) (fun m => ((TyOk.int .i64).lt _ _)) (SelE.leaf (lk 1 rfl rfl) rfl (.refl _) (fun m => ((TyOk.int .i64).lt _ _)) (SelE.leaf (lk 2 rfl rfl) rfl (.refl _) (fun m => (TyOk.bool.lt _ _)) (SelE.leaf (lk 3 rfl rfl) rfl (.refl _) (fun m => ((TyOk.int .i64).lt _ _)) (SelE.leaf (lk 4 rfl rfl) rfl (.refl _) (fun m => (lt_sl rfl (ty_THold.ltm _ _))) (SelE.leaf (lk 5 rfl rfl) rfl (.refl _) (fun m => ((TyOk.int .i64).lt _ _)) (SelE.leaf (lk 6 rfl rfl) rfl (.refl _) (fun m => ((TyOk.int .i64).lt _ _)) (SelE.spec (lk 7 rfl rfl) rfl (.slo (by first | rfl | simp)) rfl rfl (SelE.leaf (lk 8 rfl rfl) rfl (.refl _) (fun m => ((TyOk.int .i64).lt _ _)) (SelE.leaf (lk 9 rfl rfl) rfl (.refl _) (fun m => rfl) (SelE.leaf (lk 10 rfl rfl) rfl (.refl _) (fun m => (lt_sl rfl (ty_THold.ltm _ _))) .nil))))))))))) (.cons (lt_buf ty_THold) rfl ⟨rfl, RSubL.leafr ty_THold _ rfl⟩ .nil)) (fun _ s10 h9 => ?_)
          rw [usufructref06_Join_L2] at h9
          refine AWp.seq ?_
          refine AWp.seq ?_
          refine W.reg [0, 1, 2, 3] rfl ?_
          refine S.sil 27 rfl rfl (fun _ hF => .move (lk 0 rfl rfl)) ?_
          refine S.sil 28 rfl rfl (fun _ hF => .move (lk 8 rfl rfl)) ?_
          refine S.sil 29 rfl rfl (fun _ hF => .lenO sli31 (lk 0 rfl rfl)) ?_
          refine S.sil 30 rfl rfl (fun _ hF => .lss (lk 2 rfl rfl) (lk 0 rfl rfl)) ?_
          refine S.nil ?_
          refine thenQ_n ?_
          refine AWp.condM (lk 0 rfl rfl) h9 (fun c3 h9 => ?_) (fun c3 h9 => ?_)
          · skip
            refine AWp.skip ?_
            refine thenQ_n ?_
            refine AWp.seq ?_
            refine AWp.block ?_
            refine AWp.seq ?_
            refine W.regD [0, 1, 2, 3, 4, 5, 6, 7, 8, 9, 10, 11, 12, 13, 14, 15, 16, 17, 18, 19, 20, 21, 22, 23] mixed ?_
            refine S.sil 33 rfl rfl (fun _ hF => .move (lk 11 rfl rfl)) ?_
            refine S.sil 34 rfl rfl (fun _ hF => .move (lk 5 rfl rfl)) ?_
            obtain ⟨j12, m12, h9⟩ := h9.bnd
            refine S.sil 35 rfl rfl (fun _ hF => .ixO sli31 (lk 1 rfl rfl) (lk 0 rfl rfl) (by first | rfl | simp) m12) ?_
            refine S.sil 36 rfl rfl (fun _ hF => .fieldAddr lay66 rfl rfl (lk 0 rfl rfl)) ?_
            refine S.qui 37 rfl rfl (fun _ => .loadB sz3 ag3 (lk 0 rfl rfl) rfl (.ls (by have := six_lt m12; simp at this ⊢; omega) (.st rfl flL_nil .nil)) (by first | rfl | omega) rfl rfl) ?_
            refine S.sil 38 rfl rfl (fun _ hF => .move (lk 19 rfl rfl)) ?_
            refine S.sil 39 rfl rfl (fun _ hF => .move (lk 16 rfl rfl)) ?_
            obtain ⟨j13, m13, h9⟩ := h9.bnd
            refine S.sil 40 rfl rfl (fun _ hF => .ixS sli31 (lk 1 rfl rfl) (lk 0 rfl rfl) m13) ?_
            refine S.sil 41 rfl rfl (fun _ hF => .fieldAddrC lay66 rfl rfl (lk 0 rfl rfl) rfl flL_nil) ?_
            refine S.sil 42 rfl rfl (fun _ hF => .loadC sz3 ag3 (lk 0 rfl rfl) rfl rfl) ?_
            refine S.sil 43 rfl rfl (fun _ hF => .eql (lk 5 rfl rfl) (lk 0 rfl rfl)) ?_
            refine S.sil 44 rfl rfl (fun _ hF => .move (lk 0 rfl rfl)) ?_
            refine S.gsil 45 11 44 true rfl rfl rfl (lk 0 rfl rfl) (fun hB _ hF => .move (lk 23 rfl rfl)) ?_
            refine S.gsil 46 11 44 true rfl rfl rfl (lk 1 rfl rfl) (fun hB _ hF => .move (lk 17 rfl rfl)) ?_
            obtain ⟨j14, m14, h9⟩ := h9.bnd
            refine S.gsil 47 11 44 true rfl rfl rfl (lk 2 rfl rfl) (fun hB _ hF => .ixO sli31 (ifT hB (lk 1 rfl rfl)) (ifT hB (lk 0 rfl rfl)) (by first | rfl | simp) (gd_get m14 hB)) ?_
            refine S.gsil 48 11 44 true rfl rfl rfl (lk 3 rfl rfl) (fun hB _ hF => .fieldAddr lay66 rfl rfl (ifT hB (lk 0 rfl rfl))) ?_
            refine S.gqui 49 11 44 true rfl rfl rfl (lk 4 rfl rfl) (fun hB _ => .loadB sz3 ag3 (ifT hB (lk 0 rfl rfl)) rfl (.ls (by have := six_lt (gd_get m14 hB); simp at this ⊢; omega) (.st rfl (flL_c (show flen _ = 1 from rfl) flL_nil) .nil)) (by first | rfl | omega) rfl rfl) ?_
            refine S.gsil 50 11 44 true rfl rfl rfl (lk 5 rfl rfl) (fun hB _ hF => .move (lk 31 rfl rfl)) ?_
            refine S.gsil 51 11 44 true rfl rfl rfl (lk 6 rfl rfl) (fun hB _ hF => .move (lk 28 rfl rfl)) ?_
            obtain ⟨j15, m15, h9⟩ := h9.bnd
            refine S.gsil 52 11 44 true rfl rfl rfl (lk 7 rfl rfl) (fun hB _ hF => .ixS sli31 (ifT hB (lk 1 rfl rfl)) (ifT hB (lk 0 rfl rfl)) (gd_get m15 hB)) ?_
            refine S.gsil 53 11 44 true rfl rfl rfl (lk 8 rfl rfl) (fun hB _ hF => .fieldAddrC lay66 rfl rfl (ifT hB (lk 0 rfl rfl)) rfl (flL_c (show flen _ = 1 from rfl) flL_nil)) ?_
            refine S.gsil 54 11 44 true rfl rfl rfl (lk 9 rfl rfl) (fun hB _ hF => .loadC sz3 ag3 (ifT hB (lk 0 rfl rfl)) rfl rfl) ?_
            refine S.gsil 55 11 44 true rfl rfl rfl (lk 10 rfl rfl) (fun hB _ hF => .eql (ifT hB (lk 5 rfl rfl)) (ifT hB (lk 0 rfl rfl))) ?_
            obtain ⟨v16, ev16, h9⟩ := h9.nam
            refine S.sil 56 rfl rfl (fun _ hF => .nv (.pickAnd (lk 11 rfl rfl) (fun h => ifT h (lk 0 rfl rfl)) cB) (congrArg V.bool ev16.symm)) ?_
            refine S.nilD (by kernel_rfl) ?_
            refine thenQ_n ?_
            refine AWp.prune (.eq (lk 0 rfl rfl) rfl (.eq (lk 12 rfl rfl) rfl (.eq (lk 13 rfl rfl) rfl (.eq (lk 14 rfl rfl) rfl (.eq (lk 15 rfl rfl) rfl (.eq (lk 16 rfl rfl) rfl (.eq (lk 17 rfl rfl) rfl (.eq (lk 18 rfl rfl) rfl (.eq (lk 19 rfl rfl) rfl (.eq (lk 20 rfl rfl) rfl (.eq (lk 21 rfl rfl) rfl (.eq (lk 22 rfl rfl) rfl (.eq (lk 23 rfl rfl) rfl (.eq (lk 24 rfl rfl) rfl (.eq (lk 25 rfl rfl) rfl (.eq (lk 26 rfl rfl) rfl (.eq (lk 27 rfl rfl) rfl (.eq (lk 28 rfl rfl) rfl (.eq (lk 29 rfl rfl) rfl (.eq (lk 30 rfl rfl) rfl (.eq (lk 31 rfl rfl) rfl (.eq (lk 32 rfl rfl) rfl (.eq (lk 33 rfl rfl) rfl (.eq (lk 34 rfl rfl) rfl (.eq (lk 35 rfl rfl) rfl (.eq (lk 36 rfl rfl) rfl (.eq (lk 37 rfl rfl) rfl (.eq (lk 38 rfl rfl) rfl .nil)))))))))))))))))))))))))))) ?_
            refine AWp.condM (lk 0 rfl rfl) h9 (fun c4 h9 => ?_) (fun c4 h9 => ?_)
            · skip
              refine W.reg [0, 1] rfl ?_
              refine S.sil 57 rfl rfl (fun _ hF => .move (lk 17 rfl rfl)) ?_
              refine S.sil 8 rfl rfl (fun _ hF => .assign (lk 0 rfl rfl)) ?_
              refine S.nil ?_
              refine blockQ_n ?_
              refine thenQ_n ?_
              refine W.reg [0, 1, 2] rfl ?_
              refine S.sil 31 rfl rfl (fun _ hF => .move (lk 19 rfl rfl)) ?_
              refine S.sil 32 rfl rfl (fun _ hF => .add (lk 0 rfl rfl) cI) ?_
              refine S.sil 9 rfl rfl (fun _ hF => .assign (lk 0 rfl rfl)) ?_
              refine S.nil ?_
              refine thenQ_n ?_
              exact ⟨_, h9.ret, (Wk.selS [0] (by decide) rfl (SelE.leaf (lk 0 rfl rfl) rfl (.refl _) (fun m => ((TyOk.int .i64).lt _ _)) (SelE.leaf (lk 3 rfl rfl) rfl (.refl _) (fun m => ((TyOk.int .i64).lt _ _)) (SelE.leaf (lk 24 rfl rfl) rfl (.refl _) (fun m => (TyOk.bool.lt _ _)) (SelE.leaf (lk 25 rfl rfl) rfl (.refl _) (fun m => ((TyOk.int .i64).lt _ _)) (SelE.leaf (lk 26 rfl rfl) rfl (.refl _) (fun m => (lt_sl rfl (ty_THold.ltm _ _))) (SelE.leaf (lk 27 rfl rfl) rfl (.refl _) (fun m => ((TyOk.int .i64).lt _ _)) (SelE.leaf (lk 28 rfl rfl) rfl (.refl _) (fun m => ((TyOk.int .i64).lt _ _)) (SelE.spec (lk 29 rfl rfl) rfl (.slo (by first | rfl | simp)) rfl rfl (SelE.leaf (lk 30 rfl rfl) rfl (.refl _) (fun m => ((TyOk.int .i64).lt _ _)) (SelE.leaf (lk 31 rfl rfl) rfl (.refl _) (fun m => rfl) (SelE.leaf (lk 32 rfl rfl) rfl (.refl _) (fun m => (lt_sl rfl (ty_THold.ltm _ _))) .nil))))))))))) (.cons (lt_buf ty_THold) rfl ⟨rfl, RSubL.leafr ty_THold _ rfl⟩ .nil))⟩
            · skip
              refine AWp.skip ?_
              refine blockQ_n ?_
              refine thenQ_n ?_
              refine W.reg [0, 1, 2] rfl ?_
              refine S.sil 31 rfl rfl (fun _ hF => .move (lk 17 rfl rfl)) ?_
              refine S.sil 32 rfl rfl (fun _ hF => .add (lk 0 rfl rfl) cI) ?_
              refine S.sil 9 rfl rfl (fun _ hF => .assign (lk 0 rfl rfl)) ?_
              refine S.nil ?_
              refine thenQ_n ?_
              exact ⟨_, h9.ret, (Wk.selS [0] (by decide) rfl (SelE.leaf (lk 0 rfl rfl) rfl (.refl _) (fun m => ((TyOk.int .i64).lt _ _)) (SelE.leaf (lk 21 rfl rfl) rfl (.refl _) (fun m => ((TyOk.int .i64).lt _ _)) (SelE.leaf (lk 22 rfl rfl) rfl (.refl _) (fun m => (TyOk.bool.lt _ _)) (SelE.leaf (lk 23 rfl rfl) rfl (.refl _) (fun m => ((TyOk.int .i64).lt _ _)) (SelE.leaf (lk 24 rfl rfl) rfl (.refl _) (fun m => (lt_sl rfl (ty_THold.ltm _ _))) (SelE.leaf (lk 25 rfl rfl) rfl (.refl _) (fun m => ((TyOk.int .i64).lt _ _)) (SelE.leaf (lk 26 rfl rfl) rfl (.refl _) (fun m => ((TyOk.int .i64).lt _ _)) (SelE.spec (lk 27 rfl rfl) rfl (.slo (by first | rfl | simp)) rfl rfl (SelE.leaf (lk 28 rfl rfl) rfl (.refl _) (fun m => ((TyOk.int .i64).lt _ _)) (SelE.leaf (lk 29 rfl rfl) rfl (.refl _) (fun m => rfl) (SelE.leaf (lk 30 rfl rfl) rfl (.refl _) (fun m => (lt_sl rfl (ty_THold.ltm _ _))) .nil))))))))))) (.cons (lt_buf ty_THold) rfl ⟨rfl, RSubL.leafr ty_THold _ rfl⟩ .nil))⟩
          · skip
            refine AWp.exit ?_
            refine thenQ_x ?_
            refine thenQ_x ?_
            refine blockQ_x ?_
            refine thenQ_n ?_
            exact ⟨_, h9.ret, (Wk.selS [0] (by decide) rfl (SelE.leaf (lk 0 rfl rfl) rfl (.refl _) (fun m => (TyOk.bool.lt _ _)) (SelE.leaf (lk 1 rfl rfl) rfl (.refl _) (fun m => ((TyOk.int .i64).lt _ _)) (SelE.spec (lk 2 rfl rfl) rfl (.slo (by first | rfl | simp)) rfl rfl (SelE.leaf (lk 3 rfl rfl) rfl (.refl _) (fun m => ((TyOk.int .i64).lt _ _)) (SelE.leaf (lk 4 rfl rfl) rfl (.refl _) (fun m => ((TyOk.int .i64).lt _ _)) (SelE.leaf (lk 5 rfl rfl) rfl (.refl _) (fun m => ((TyOk.int .i64).lt _ _)) (SelE.leaf (lk 6 rfl rfl) rfl (.refl _) (fun m => (TyOk.bool.lt _ _)) (SelE.leaf (lk 7 rfl rfl) rfl (.refl _) (fun m => ((TyOk.int .i64).lt _ _)) (SelE.leaf (lk 8 rfl rfl) rfl (.refl _) (fun m => (lt_sl rfl (ty_THold.ltm _ _))) (SelE.leaf (lk 9 rfl rfl) rfl (.refl _) (fun m => ((TyOk.int .i64).lt _ _)) (SelE.leaf (lk 10 rfl rfl) rfl (.refl _) (fun m => ((TyOk.int .i64).lt _ _)) (SelE.spec (lk 11 rfl rfl) rfl (.slo (by first | rfl | simp)) rfl rfl (SelE.leaf (lk 12 rfl rfl) rfl (.refl _) (fun m => ((TyOk.int .i64).lt _ _)) (SelE.leaf (lk 13 rfl rfl) rfl (.refl _) (fun m => rfl) (SelE.leaf (lk 14 rfl rfl) rfl (.refl _) (fun m => (lt_sl rfl (ty_THold.ltm _ _))) .nil))))))))))))))) (.cons (lt_buf ty_THold) rfl ⟨rfl, RSubL.leafr ty_THold _ rfl⟩ .nil))⟩
        · skip
          refine thenQ_n ?_
          refine AWp.seq ?_
          refine AWp.seq ?_
          refine W.reg [0, 1] rfl ?_
          refine S.sil 58 rfl rfl (fun _ hF => .move (lk 5 rfl rfl)) ?_
          refine S.sil 59 rfl rfl (fun _ hF => .lss (lk 0 rfl rfl) cI) ?_
          refine S.nil ?_
          refine thenQ_n ?_
          refine AWp.condM (lk 0 rfl rfl) h6 (fun c5 h6 => ?_) (fun c5 h6 => ?_)
          · skip
            refine AWp.seq ?_
            refine W.reg [0, 1, 2, 3, 4, 5, 6] rfl ?_
            refine S.sil 60 rfl rfl (fun _ hF => .move (lk 13 rfl rfl)) ?_
            refine S.sil 61 rfl rfl (fun _ hF => .move (lk 17 rfl rfl)) ?_
            refine S.sil 62 rfl rfl (fun _ hF => .move (lk 14 rfl rfl)) ?_
            obtain ⟨j17, m17, h6⟩ := h6.bnd
            refine S.sil 63 rfl rfl (fun _ hF => .ixS sli31 (lk 1 rfl rfl) (lk 0 rfl rfl) m17) ?_
            obtain ⟨v18, ev18, h6⟩ := h6.nam
            refine S.sil 64 rfl rfl (fun _ hF => .nv (.loadC sz66 ag66 (lk 0 rfl rfl) (ty_THold.fl (a2.getD j17 default)) rfl) (congrArg E_THold ev18.symm)) ?_
            obtain ⟨r19, m19, h6⟩ := h6.bnd
            refine S.eff 65 rfl rfl (.nf (v2 := .slo 5 1 [] 0 0 r19.length 1) (H2 := [.dead, .buf 5 (List.map E_THold r19)]) (.fz 0 60 rfl rfl (lk 4 rfl rfl) rfl (.slo (by first | rfl | simp)) (.callN ent59 cF [] (C_usufructref06_Put_own m19) .nil .nil (ltL_c (ty_S_THold.lt _ _) (ltL_c (ty_THold.lt _ _) ltL_nil)) (.c (lk 0 rfl rfl) (vsubr (V.sub.refl _) (ty_S_THold.lt _ 0)) (.c (lk 1 rfl rfl) (vsubr (V.sub.refl _) (ty_THold.lt _ 0)) .nil)) rfl (mapc (ren_buf ty_THold _) rfl) rfl)) rfl rfl) trivial ?_
            refine S.sil 6 rfl rfl (fun _ hF => .assign (lk 0 rfl rfl)) ?_
            refine S.nil ?_
            refine thenQ_n ?_
            refine AWp.exit ?_
            refine thenQ_x ?_
            refine blockQ_x ?_
            refine thenQ_n ?_
            refine W.reg [0, 1, 2] rfl ?_
            refine S.sil 25 rfl rfl (fun _ hF => .move (lk 19 rfl rfl)) ?_
            refine S.sil 26 rfl rfl (fun _ hF => .add (lk 0 rfl rfl) cI) ?_
            refine S.sil 7 rfl rfl (fun _ hF => .assign (lk 0 rfl rfl)) ?_
            refine S.nil ?_
            refine thenQ_n ?_
            exact ⟨_, h6.ret, (Wk.selS [1] (by decide) rfl (SelE.leaf (lk 0 rfl rfl) rfl (.refl _) (fun m => ((TyOk.int .i64).lt _ _)) (SelE.spec (lk 3 rfl rfl) rfl (.slo (by first | rfl | simp)) rfl rfl (SelE.leaf (lk 24 rfl rfl) rfl (.refl _) (fun m => ((TyOk.int .i64).lt _ _)) (SelE.leaf (lk 25 rfl rfl) rfl (.refl _) (fun m => rfl) (SelE.leaf (lk 26 rfl rfl) rfl (.refl _) (fun m => (lt_sl rfl (ty_THold.ltm _ _))) .nil))))) (.cons (lt_buf ty_THold) rfl ⟨rfl, RSubL.leafr ty_THold _ rfl⟩ .nil))⟩
          · skip
            refine AWp.skip ?_
            refine thenQ_n ?_
            refine AWp.seq ?_
            refine AWp.seq ?_
            refine W.regD [0, 1, 2, 3, 4, 5, 6, 7, 8, 9, 10, 11, 12, 13, 14, 15, 16, 17, 18, 19, 20, 21, 22, 23] mixed ?_
            refine S.sil 66 rfl rfl (fun _ hF => .move (lk 13 rfl rfl)) ?_
            refine S.sil 67 rfl rfl (fun _ hF => .move (lk 8 rfl rfl)) ?_
            obtain ⟨j20, m20, h6⟩ := h6.bnd
            refine S.sil 68 rfl rfl (fun _ hF => .ixO sli31 (lk 1 rfl rfl) (lk 0 rfl rfl) (by first | rfl | simp) m20) ?_
            refine S.sil 69 rfl rfl (fun _ hF => .fieldAddr lay66 rfl rfl (lk 0 rfl rfl)) ?_
            refine S.qui 70 rfl rfl (fun _ => .loadB sz3 ag3 (lk 0 rfl rfl) rfl (.ls (by have := six_lt m20; simp at this ⊢; omega) (.st rfl (flL_c (show flen _ = 1 from rfl) (flL_c (show flen _ = 1 from rfl) flL_nil)) .nil)) (by first | rfl | omega) rfl rfl) ?_
            refine S.sil 71 rfl rfl (fun _ hF => .move (lk 21 rfl rfl)) ?_
            refine S.sil 72 rfl rfl (fun _ hF => .move (lk 18 rfl rfl)) ?_
            obtain ⟨j21, m21, h6⟩ := h6.bnd
            refine S.sil 73 rfl rfl (fun _ hF => .ixS sli31 (lk 1 rfl rfl) (lk 0 rfl rfl) m21) ?_
            refine S.sil 74 rfl rfl (fun _ hF => .fieldAddrC lay66 rfl rfl (lk 0 rfl rfl) rfl (flL_c (show flen _ = 1 from rfl) (flL_c (show flen _ = 1 from rfl) flL_nil))) ?_
            refine S.sil 75 rfl rfl (fun _ hF => .loadC sz3 ag3 (lk 0 rfl rfl) rfl rfl) ?_
            refine S.sil 76 rfl rfl (fun _ hF => .neq (lk 5 rfl rfl) (lk 0 rfl rfl)) ?_
            refine S.sil 77 rfl rfl (fun _ hF => .move (lk 0 rfl rfl)) ?_
            refine S.gsil 78 11 77 false rfl rfl rfl (lk 0 rfl rfl) (fun hB _ hF => .move (lk 25 rfl rfl)) ?_
            refine S.gsil 79 11 77 false rfl rfl rfl (lk 1 rfl rfl) (fun hB _ hF => .move (lk 20 rfl rfl)) ?_
            obtain ⟨j22, m22, h6⟩ := h6.bnd
            refine S.gsil 80 11 77 false rfl rfl rfl (lk 2 rfl rfl) (fun hB _ hF => .ixO sli31 (ifT hB (lk 1 rfl rfl)) (ifT hB (lk 0 rfl rfl)) (by first | rfl | simp) (gd_get m22 hB)) ?_
            refine S.gsil 81 11 77 false rfl rfl rfl (lk 3 rfl rfl) (fun hB _ hF => .fieldAddr lay66 rfl rfl (ifT hB (lk 0 rfl rfl))) ?_
            refine S.gqui 82 11 77 false rfl rfl rfl (lk 4 rfl rfl) (fun hB _ => .loadB sz3 ag3 (ifT hB (lk 0 rfl rfl)) rfl (.ls (by have := six_lt (gd_get m22 hB); simp at this ⊢; omega) (.st rfl (flL_c (show flen _ = 1 from rfl) (flL_c (show flen _ = 1 from rfl) (flL_c (show flen _ = 1 from rfl) flL_nil))) .nil)) (by first | rfl | omega) rfl rfl) ?_
            refine S.gsil 83 11 77 false rfl rfl rfl (lk 5 rfl rfl) (fun hB _ hF => .move (lk 33 rfl rfl)) ?_
            refine S.gsil 84 11 77 false rfl rfl rfl (lk 6 rfl rfl) (fun hB _ hF => .move (lk 30 rfl rfl)) ?_
            obtain ⟨j23, m23, h6⟩ := h6.bnd
            refine S.gsil 85 11 77 false rfl rfl rfl (lk 7 rfl rfl) (fun hB _ hF => .ixS sli31 (ifT hB (lk 1 rfl rfl)) (ifT hB (lk 0 rfl rfl)) (gd_get m23 hB)) ?_
            refine S.gsil 86 11 77 false rfl rfl rfl (lk 8 rfl rfl) (fun hB _ hF => .fieldAddrC lay66 rfl rfl (ifT hB (lk 0 rfl rfl)) rfl (flL_c (show flen _ = 1 from rfl) (flL_c (show flen _ = 1 from rfl) (flL_c (show flen _ = 1 from rfl) flL_nil)))) ?_
            refine S.gsil 87 11 77 false rfl rfl rfl (lk 9 rfl rfl) (fun hB _ hF => .loadC sz3 ag3 (ifT hB (lk 0 rfl rfl)) rfl rfl) ?_
            refine S.gsil 88 11 77 false rfl rfl rfl (lk 10 rfl rfl) (fun hB _ hF => .neq (ifT hB (lk 5 rfl rfl)) (ifT hB (lk 0 rfl rfl))) ?_
            obtain ⟨v24, ev24, h6⟩ := h6.nam
            refine S.sil 89 rfl rfl (fun _ hF => .nv (.pickOr (lk 11 rfl rfl) cB (fun h => ifT h (lk 0 rfl rfl))) (congrArg V.bool ev24.symm)) ?_
            refine S.nilD (by kernel_rfl) ?_
            refine thenQ_n ?_
            refine AWp.prune (.eq (lk 0 rfl rfl) rfl (.eq (lk 12 rfl rfl) rfl (.eq (lk 13 rfl rfl) rfl (.eq (lk 14 rfl rfl) rfl (.eq (lk 15 rfl rfl) rfl (.eq (lk 16 rfl rfl) rfl (.eq (lk 17 rfl rfl) rfl (.eq (lk 18 rfl rfl) rfl (.eq (lk 19 rfl rfl) rfl (.eq (lk 20 rfl rfl) rfl (.eq (lk 21 rfl rfl) rfl (.eq (lk 22 rfl rfl) rfl (.eq (lk 23 rfl rfl) rfl (.eq (lk 24 rfl rfl) rfl (.eq (lk 25 rfl rfl) rfl (.eq (lk 26 rfl rfl) rfl (.eq (lk 27 rfl rfl) rfl (.eq (lk 28 rfl rfl) rfl (.eq (lk 29 rfl rfl) rfl (.eq (lk 30 rfl rfl) rfl (.eq (lk 31 rfl rfl) rfl (.eq (lk 32 rfl rfl) rfl (.eq (lk 33 rfl rfl) rfl (.eq (lk 34 rfl rfl) rfl (.eq (lk 35 rfl rfl) rfl (.eq (lk 36 rfl rfl) rfl (.eq (lk 37 rfl rfl) rfl (.eq (lk 38 rfl rfl) rfl (.eq (lk 39 rfl rfl) rfl (.eq (lk 40 rfl rfl) rfl .nil)))))))))))))))))))))))))))))) ?_
            refine AWp.condM (lk 0 rfl rfl) h6 (fun c6 h6 => ?_) (fun c6 h6 => ?_)
            · skip
              refine AWp.seq ?_
              refine W.reg [0, 1] rfl ?_
              refine S.sil 4 rfl rfl (fun _ hF => .assign cNs) ?_
              refine S.sil 5 rfl rfl (fun _ hF => .assign cI) ?_
              refine S.nil ?_
              refine thenQ_n ?_
              refine AWp.ret ?_
              refine thenQ_r ?_
              refine blockQ_r ?_
              refine thenQ_r ?_
              refine thenQ_r ?_
              refine blockQ_r ?_
              refine thenQ_r ?_
              refine thenQ_r ?_
              have h := Ok.inrq h h6.ret
              obtain rfl := h.ret
              exact endFN rfl (Wk.selS [] .nil rfl (SelE.leaf (lk 1 rfl rfl) rfl (.nils_no _) (fun m => (ty_S_THold.lt ([] : List THold) _)) (SelE.leaf (lk 0 rfl rfl) rfl (.refl _) (fun m => ((TyOk.int .i64).lt _ _)) .nil)) .nil) (.cons (.tmp (lk 0 rfl rfl) rfl) (.cons (.tmp (lk 1 rfl rfl) rfl) .nil)) rfl rfl rfl
            · skip
              refine AWp.skip ?_
              refine thenQ_n ?_
              refine W.regD [0, 1, 2, 3, 4, 5, 6, 7, 8, 9, 10, 11, 12, 13, 14, 15] mixed ?_
              refine S.sil 90 rfl rfl (fun _ hF => .move (lk 26 rfl rfl)) ?_
              refine S.sil 91 rfl rfl (fun _ hF => .move (lk 21 rfl rfl)) ?_
              refine S.sil 92 rfl rfl (fun _ hF => .move (lk 28 rfl rfl)) ?_
              refine S.sil 93 rfl rfl (fun _ hF => .move (lk 23 rfl rfl)) ?_
              obtain ⟨j25, m25, h6⟩ := h6.bnd
              refine S.sil 94 rfl rfl (fun _ hF => .ixO sli31 (lk 1 rfl rfl) (lk 0 rfl rfl) (by first | rfl | simp) m25) ?_
              refine S.sil 95 rfl rfl (fun _ hF => .fieldAddr lay66 rfl rfl (lk 0 rfl rfl)) ?_
              refine S.qui 96 rfl rfl (fun _ => .loadB sz3 ag3 (lk 0 rfl rfl) rfl (.ls (by have := six_lt m25; simp at this ⊢; omega) (.st rfl (flL_c (show flen _ = 1 from rfl) (flL_c (show flen _ = 1 from rfl) (flL_c (show flen _ = 1 from rfl) (flL_c (show flen _ = 1 from rfl) flL_nil)))) .nil)) (by first | rfl | omega) rfl rfl) ?_
              refine S.sil 97 rfl rfl (fun _ hF => .move (lk 36 rfl rfl)) ?_
              refine S.sil 98 rfl rfl (fun _ hF => .move (lk 33 rfl rfl)) ?_
              obtain ⟨j26, m26, h6⟩ := h6.bnd
              refine S.sil 99 rfl rfl (fun _ hF => .ixS sli31 (lk 1 rfl rfl) (lk 0 rfl rfl) m26) ?_
              refine S.sil 100 rfl rfl (fun _ hF => .fieldAddrC lay66 rfl rfl (lk 0 rfl rfl) rfl (flL_c (show flen _ = 1 from rfl) (flL_c (show flen _ = 1 from rfl) (flL_c (show flen _ = 1 from rfl) (flL_c (show flen _ = 1 from rfl) flL_nil))))) ?_
              refine S.sil 101 rfl rfl (fun _ hF => .loadC sz3 ag3 (lk 0 rfl rfl) rfl rfl) ?_
              refine S.sil 102 rfl rfl (fun _ hF => .bmax (lk 5 rfl rfl) (lk 0 rfl rfl)) ?_
              obtain ⟨j27, m27, h6⟩ := h6.bnd
              refine S.sil 103 rfl rfl (fun _ hF => .ixO sli31 (lk 12 rfl rfl) (lk 11 rfl rfl) (by first | rfl | simp) m27) ?_
              refine S.sil 104 rfl rfl (fun _ hF => .fieldAddr lay66 rfl rfl (lk 0 rfl rfl)) ?_
              obtain ⟨v28, ev28, h6⟩ := h6.nam
              refine S.effN rfl rfl (.storeB sz3 (lk 0 rfl rfl) (lk 2 rfl rfl) rfl (.refl _) rfl (.ls (by have := six_lt m27; simp at this ⊢; omega) (.st rfl (flL_c (show flen _ = 1 from rfl) (flL_c (show flen _ = 1 from rfl) (flL_c (show flen _ = 1 from rfl) (flL_c (show flen _ = 1 from rfl) flL_nil)))) .nil)) (by first | rfl | omega) (.ls ({ (s7.2.getD j27 default) with State := (max ((s7.2.getD j25 default).State) ((a2.getD j26 default).State)) }) (by have := six_lt m27; simp at this ⊢; omega) (.st rfl .nil rfl)) rfl rfl (congrArg (fun z => ([AObj.buf 5 (List.map E_THold z)] : List AObj)) ev28.symm)) trivial ?_
              refine S.nilD (by kernel_rfl) ?_
              refine blockQ_n ?_
              refine thenQ_n ?_
              refine W.reg [0, 1, 2] rfl ?_
              refine S.sil 25 rfl rfl (fun _ hF => .move (lk 40 rfl rfl)) ?_
              refine S.sil 26 rfl rfl (fun _ hF => .add (lk 0 rfl rfl) cI) ?_
              refine S.sil 7 rfl rfl (fun _ hF => .assign (lk 0 rfl rfl)) ?_
              refine S.nil ?_
              refine thenQ_n ?_
              exact ⟨_, h6.ret, (Wk.selS [0] (by decide) rfl (SelE.leaf (lk 0 rfl rfl) rfl (.refl _) (fun m => ((TyOk.int .i64).lt _ _)) (SelE.spec (lk 44 rfl rfl) rfl (.slo (by first | rfl | simp [ev28])) rfl rfl (SelE.leaf (lk 45 rfl rfl) rfl (.refl _) (fun m => ((TyOk.int .i64).lt _ _)) (SelE.leaf (lk 46 rfl rfl) rfl (.refl _) (fun m => rfl) (SelE.leaf (lk 47 rfl rfl) rfl (.refl _) (fun m => (lt_sl rfl (ty_THold.ltm _ _))) .nil))))) (.cons (lt_buf ty_THold) rfl ⟨rfl, RSubL.leafr ty_THold _ rfl⟩ .nil))⟩
      · skip
        refine AWp.exit ?_
        refine thenQ_x ?_
        refine thenQ_x ?_
        refine blockQ_x ?_
        refine thenQ_n ?_
        exact ⟨_, h6.ret, (Wk.selS [0] (by decide) rfl (SelE.spec (lk 5 rfl rfl) rfl (.slo (by first | rfl | simp)) rfl rfl (SelE.leaf (lk 6 rfl rfl) rfl (.refl _) (fun m => ((TyOk.int .i64).lt _ _)) (SelE.leaf (lk 7 rfl rfl) rfl (.refl _) (fun m => rfl) .nil))) (.cons (lt_buf ty_THold) rfl ⟨rfl, RSubL.leafr ty_THold _ rfl⟩ .nil))⟩
    · skip
      refine thenQ_n ?_
      refine AWp.seq ?_
      refine AWp.seq ?_
      refine W.reg [0, 1, 2] rfl ?_
      refine S.sil 105 rfl rfl (fun _ hF => .move (lk 0 rfl rfl)) ?_
      refine S.sil 106 rfl rfl (fun _ hF => .lenO sli31 (lk 0 rfl rfl)) ?_
      refine S.sil 107 rfl rfl (fun _ hF => .gtr (lk 0 rfl rfl) cI) ?_
      refine S.nil ?_
      refine thenQ_n ?_
      refine AWp.condM (lk 0 rfl rfl) h (fun c7 h => ?_) (fun c7 h => ?_)
      · skip
        refine AWp.seq ?_
        refine W.reg [0, 1] rfl ?_
        refine S.sil 4 rfl rfl (fun _ hF => .assign cNs) ?_
        refine S.sil 5 rfl rfl (fun _ hF => .assign cI) ?_
        refine S.nil ?_
        refine thenQ_n ?_
        refine AWp.ret ?_
        refine thenQ_r ?_
        obtain rfl := h.ret
        exact endFN rfl (Wk.selS [] .nil rfl (SelE.leaf (lk 1 rfl rfl) rfl (.nils_no _) (fun m => (ty_S_THold.lt ([] : List THold) _)) (SelE.leaf (lk 0 rfl rfl) rfl (.refl _) (fun m => ((TyOk.int .i64).lt _ _)) .nil)) .nil) (.cons (.tmp (lk 0 rfl rfl) rfl) (.cons (.tmp (lk 1 rfl rfl) rfl) .nil)) rfl rfl rfl
      · skip
        refine AWp.skip ?_
        refine thenQ_n ?_
        refine AWp.seq ?_
        refine W.reg [0, 1, 2] rfl ?_
        refine S.sil 108 rfl rfl (fun _ hF => .move (lk 3 rfl rfl)) ?_
        refine S.sil 4 rfl rfl (fun _ hF => .assign (lk 0 rfl rfl)) ?_
        refine S.sil 5 rfl rfl (fun _ hF => .assign cI) ?_
        refine S.nil ?_
        refine thenQ_n ?_
        refine AWp.ret ?_
        refine endF_wk (Wk.freeze 0 rfl rfl (.same (lk 0 rfl rfl) (.cons (lk 1 rfl rfl) rfl (.slo (by first | rfl | simp)) (.same (lk 0 rfl rfl) (.same (lk 1 rfl rfl) .nil)))) (.refl _)) ?_
        obtain rfl := h.ret
        exact endFN rfl (Wk.selS [] .nil rfl (SelE.leaf (lk 1 rfl rfl) rfl (.refl _) (fun m => (ty_S_THold.lt _ _)) (SelE.leaf (lk 0 rfl rfl) rfl (.refl _) (fun m => ((TyOk.int .i64).lt _ _)) .nil)) .nil) (.cons (.tmp (lk 0 rfl rfl) rfl) (.cons (.tmp (lk 1 rfl rfl) rfl) .nil)) rfl rfl rfl
theorem C_usufructref05_Behind {a1 : TLock} {a2 : TLock} {r : Bool} (h : usufructref05_Behind a1 a2 = some r) : PureC Pg 105 [E_TLock a1, E_TLock a2] (V.bool r) := by
  refine PureC.ofF (CallSpec.of_bodyF 40 0 fn105 rfl rfl rfl (Nat.le_of_ble_eq_true rfl) ?_) (ltL_c (ty_TLock.lt _ _) (ltL_c (ty_TLock.lt _ _) ltL_nil)) (TyOk.bool.lt _ _)
  replace h := Ok.of h
  unfold usufructref05_Behind at h
  refine AWp.seq ?_
  refine W.reg [0, 1, 2] rfl ?_
  refine S.eff 2 rfl rfl (.nf (v2 := .ptr 0 [] 0) (H2 := [.cells (E_TLock a1)]) (.box (lk 0 rfl rfl) rfl) rfl rfl) trivial ?_
  refine S.eff 3 rfl rfl (.nf (v2 := .ptr 1 [] 0) (H2 := [.cells (E_TLock a1), .cells (E_TLock a2)]) (.box (lk 2 rfl rfl) rfl) rfl rfl) trivial ?_
  refine S.sil 4 rfl rfl (fun _ hF => .assign cB) ?_
  refine S.nil ?_
  refine thenQ_n ?_
  refine AWp.wk (Wk.freeze 0 rfl rfl (.same (lk 0 rfl rfl) (.same (lk 1 rfl rfl) (.cons (lk 2 rfl rfl) rfl (.ptr .nil (by first | rfl | omega)) .nil))) (.refl _)) ?_
  refine AWp.wk (Wk.freeze 1 rfl rfl (.same (lk 0 rfl rfl) (.cons (lk 1 rfl rfl) rfl (.ptr .nil (by first | rfl | omega)) (.same (lk 2 rfl rfl) .nil))) (.refl _)) ?_
  refine AWp.seq ?_
  refine AWp.seq ?_
  refine W.reg [0, 1, 2, 3, 4] rfl ?_
  refine S.sil 5 rfl rfl (fun _ hF => .fieldAddrC lay30 rfl rfl (lk 2 rfl rfl) rfl flL_nil) ?_
  refine S.sil 6 rfl rfl (fun _ hF => .loadC sz3 ag3 (lk 0 rfl rfl) rfl rfl) ?_
  refine S.sil 7 rfl rfl (fun _ hF => .fieldAddrC lay30 rfl rfl (lk 3 rfl rfl) rfl flL_nil) ?_
  refine S.sil 8 rfl rfl (fun _ hF => .loadC sz3 ag3 (lk 0 rfl rfl) rfl rfl) ?_
  refine S.sil 9 rfl rfl (fun _ hF => .neq (lk 2 rfl rfl) (lk 0 rfl rfl)) ?_
  refine S.nil ?_
  refine thenQ_n ?_
  refine AWp.condM (lk 0 rfl rfl) h (fun c1 h => ?_) (fun c1 h => ?_)
  · skip
    refine AWp.seq ?_
    refine W.reg [0, 1, 2, 3, 4, 5] rfl ?_
    refine S.sil 10 rfl rfl (fun _ hF => .fieldAddrC lay30 rfl rfl (lk 7 rfl rfl) rfl flL_nil) ?_
    refine S.sil 11 rfl rfl (fun _ hF => .loadC sz3 ag3 (lk 0 rfl rfl) rfl rfl) ?_
    refine S.sil 12 rfl rfl (fun _ hF => .fieldAddrC lay30 rfl rfl (lk 8 rfl rfl) rfl flL_nil) ?_
    refine S.sil 13 rfl rfl (fun _ hF => .loadC sz3 ag3 (lk 0 rfl rfl) rfl rfl) ?_
    refine S.sil 14 rfl rfl (fun _ hF => .gtr (lk 2 rfl rfl) (lk 0 rfl rfl)) ?_
    obtain ⟨v3, ev3, h⟩ := h.nam
    refine S.sil 4 rfl rfl (fun _ hF => .nv (.assign (lk 0 rfl rfl)) (congrArg V.bool ev3.symm)) ?_
    refine S.nil ?_
    refine thenQ_n ?_
    refine AWp.prune (.eq (lk 0 rfl rfl) rfl (.eq (lk 12 rfl rfl) rfl (.eq (lk 13 rfl rfl) rfl .nil))) ?_
    refine AWp.ret ?_
    refine thenQ_r ?_
    obtain rfl := h.ret
    exact endF1 rfl (Wk.selS [] .nil rfl (SelE.leaf (lk 0 rfl rfl) rfl (.refl _) (fun m => (TyOk.bool.lt _ _)) .nil) .nil) (.tmp (lk 0 rfl rfl) rfl) rfl rfl
  · skip
    refine AWp.skip ?_
    refine thenQ_n ?_
    refine AWp.seq ?_
    refine AWp.seq ?_
    refine W.reg [0, 1, 2, 3, 4] rfl ?_
    refine S.sil 15 rfl rfl (fun _ hF => .fieldAddrC lay30 rfl rfl (lk 7 rfl rfl) rfl (flL_c (show flen _ = 1 from rfl) flL_nil)) ?_
    refine S.sil 16 rfl rfl (fun _ hF => .loadC sz3 ag3 (lk 0 rfl rfl) rfl rfl) ?_
    refine S.sil 17 rfl rfl (fun _ hF => .fieldAddrC lay30 rfl rfl (lk 8 rfl rfl) rfl (flL_c (show flen _ = 1 from rfl) flL_nil)) ?_
    refine S.sil 18 rfl rfl (fun _ hF => .loadC sz3 ag3 (lk 0 rfl rfl) rfl rfl) ?_
    refine S.sil 19 rfl rfl (fun _ hF => .neq (lk 2 rfl rfl) (lk 0 rfl rfl)) ?_
    refine S.nil ?_
    refine thenQ_n ?_
    refine AWp.condM (lk 0 rfl rfl) h (fun c2 h => ?_) (fun c2 h => ?_)
    · skip
      refine AWp.seq ?_
      refine W.reg [0, 1, 2, 3, 4, 5] rfl ?_
      refine S.sil 20 rfl rfl (fun _ hF => .fieldAddrC lay30 rfl rfl (lk 12 rfl rfl) rfl (flL_c (show flen _ = 1 from rfl) flL_nil)) ?_
      refine S.sil 21 rfl rfl (fun _ hF => .loadC sz3 ag3 (lk 0 rfl rfl) rfl rfl) ?_
      refine S.sil 22 rfl rfl (fun _ hF => .fieldAddrC lay30 rfl rfl (lk 13 rfl rfl) rfl (flL_c (show flen _ = 1 from rfl) flL_nil)) ?_
      refine S.sil 23 rfl rfl (fun _ hF => .loadC sz3 ag3 (lk 0 rfl rfl) rfl rfl) ?_
      refine S.sil 24 rfl rfl (fun _ hF => .gtr (lk 2 rfl rfl) (lk 0 rfl rfl)) ?_
      obtain ⟨v4, ev4, h⟩ := h.nam
      refine S.sil 4 rfl rfl (fun _ hF => .nv (.assign (lk 0 rfl rfl)) (congrArg V.bool ev4.symm)) ?_
      refine S.nil ?_
      refine thenQ_n ?_
      refine AWp.prune (.eq (lk 0 rfl rfl) rfl (.eq (lk 17 rfl rfl) rfl (.eq (lk 18 rfl rfl) rfl .nil))) ?_
      refine AWp.ret ?_
      refine thenQ_r ?_
      obtain rfl := h.ret
      exact endF1 rfl (Wk.selS [] .nil rfl (SelE.leaf (lk 0 rfl rfl) rfl (.refl _) (fun m => (TyOk.bool.lt _ _)) .nil) .nil) (.tmp (lk 0 rfl rfl) rfl) rfl rfl
    · skip
      refine AWp.skip ?_
      refine thenQ_n ?_
      refine AWp.prune (.eq (lk 10 rfl rfl) rfl (.eq (lk 11 rfl rfl) rfl (.eq (lk 12 rfl rfl) rfl .nil))) ?_
      refine AWp.seq ?_
      refine AWp.seq ?_
      refine W.reg [0, 1, 2, 3, 4] rfl ?_
      refine S.sil 25 rfl rfl (fun _ hF => .fieldAddrC lay30 rfl rfl (lk 2 rfl rfl) rfl (flL_c (show flen _ = 1 from rfl) (flL_c (show flen _ = 1 from rfl) flL_nil))) ?_
      refine S.sil 26 rfl rfl (fun _ hF => .loadC sz3 ag3 (lk 0 rfl rfl) rfl rfl) ?_
      refine S.sil 27 rfl rfl (fun _ hF => .fieldAddrC lay30 rfl rfl (lk 3 rfl rfl) rfl (flL_c (show flen _ = 1 from rfl) (flL_c (show flen _ = 1 from rfl) flL_nil))) ?_
      refine S.sil 28 rfl rfl (fun _ hF => .loadC sz3 ag3 (lk 0 rfl rfl) rfl rfl) ?_
      refine S.sil 29 rfl rfl (fun _ hF => .neq (lk 2 rfl rfl) (lk 0 rfl rfl)) ?_
      refine S.nil ?_
      refine thenQ_n ?_
      refine AWp.condM (lk 0 rfl rfl) h (fun c3 h => ?_) (fun c3 h => ?_)
      · skip
        refine AWp.seq ?_
        refine W.reg [0, 1, 2, 3, 4, 5] rfl ?_
        refine S.sil 30 rfl rfl (fun _ hF => .fieldAddrC lay30 rfl rfl (lk 7 rfl rfl) rfl (flL_c (show flen _ = 1 from rfl) (flL_c (show flen _ = 1 from rfl) flL_nil))) ?_
        refine S.sil 31 rfl rfl (fun _ hF => .loadC sz3 ag3 (lk 0 rfl rfl) rfl rfl) ?_
        refine S.sil 32 rfl rfl (fun _ hF => .fieldAddrC lay30 rfl rfl (lk 8 rfl rfl) rfl (flL_c (show flen _ = 1 from rfl) (flL_c (show flen _ = 1 from rfl) flL_nil))) ?_
        refine S.sil 33 rfl rfl (fun _ hF => .loadC sz3 ag3 (lk 0 rfl rfl) rfl rfl) ?_
        refine S.sil 34 rfl rfl (fun _ hF => .gtr (lk 2 rfl rfl) (lk 0 rfl rfl)) ?_
        obtain ⟨v5, ev5, h⟩ := h.nam
        refine S.sil 4 rfl rfl (fun _ hF => .nv (.assign (lk 0 rfl rfl)) (congrArg V.bool ev5.symm)) ?_
        refine S.nil ?_
        refine thenQ_n ?_
        refine AWp.prune (.eq (lk 0 rfl rfl) rfl (.eq (lk 12 rfl rfl) rfl (.eq (lk 13 rfl rfl) rfl .nil))) ?_
        refine AWp.ret ?_
        refine thenQ_r ?_
        obtain rfl := h.ret
        exact endF1 rfl (Wk.selS [] .nil rfl (SelE.leaf (lk 0 rfl rfl) rfl (.refl _) (fun m => (TyOk.bool.lt _ _)) .nil) .nil) (.tmp (lk 0 rfl rfl) rfl) rfl rfl
      · skip
        refine AWp.skip ?_
        refine thenQ_n ?_
        refine AWp.seq ?_
        refine W.reg [0, 1, 2, 3, 4, 5] rfl ?_
        refine S.sil 35 rfl rfl (fun _ hF => .fieldAddrC lay30 rfl rfl (lk 7 rfl rfl) rfl (flL_c (show flen _ = 1 from rfl) (flL_c (show flen _ = 1 from rfl) (flL_c (show flen _ = 1 from rfl) flL_nil)))) ?_
        refine S.sil 36 rfl rfl (fun _ hF => .loadC sz3 ag3 (lk 0 rfl rfl) rfl rfl) ?_
        refine S.sil 37 rfl rfl (fun _ hF => .fieldAddrC lay30 rfl rfl (lk 8 rfl rfl) rfl (flL_c (show flen _ = 1 from rfl) (flL_c (show flen _ = 1 from rfl) (flL_c (show flen _ = 1 from rfl) flL_nil)))) ?_
        refine S.sil 38 rfl rfl (fun _ hF => .loadC sz3 ag3 (lk 0 rfl rfl) rfl rfl) ?_
        refine S.sil 39 rfl rfl (fun _ hF => .gtr (lk 2 rfl rfl) (lk 0 rfl rfl)) ?_
        obtain ⟨v6, ev6, h⟩ := h.nam
        refine S.sil 4 rfl rfl (fun _ hF => .nv (.assign (lk 0 rfl rfl)) (congrArg V.bool ev6.symm)) ?_
        refine S.nil ?_
        refine thenQ_n ?_
        refine AWp.prune (.eq (lk 0 rfl rfl) rfl .nil) ?_
        refine AWp.ret ?_
        obtain rfl := h.ret
        exact endF1 rfl (Wk.selS [] .nil rfl (SelE.leaf (lk 0 rfl rfl) rfl (.refl _) (fun m => (TyOk.bool.lt _ _)) .nil) .nil) (.tmp (lk 0 rfl rfl) rfl) rfl rfl
theorem C_usufructref05_Join {a1 : TLock} {a2 : TLock} {r : TLock} (h : usufructref05_Join a1 a2 = some r) : PureC Pg 55 [E_TLock a1, E_TLock a2] (E_TLock r) := by
  refine PureC.ofF (CallSpec.of_bodyF 10 0 fn55 rfl rfl rfl (Nat.le_of_ble_eq_true rfl) ?_) (ltL_c (ty_TLock.lt _ _) (ltL_c (ty_TLock.lt _ _) ltL_nil)) (ty_TLock.lt _ _)
  replace h := Ok.of h
  unfold usufructref05_Join at h
  refine AWp.seq ?_
  refine W.reg [0, 1, 2] rfl ?_
  refine S.eff 2 rfl rfl (.nf (v2 := .ptr 0 [] 0) (H2 := [.cells (E_TLock a1)]) (.box (lk 0 rfl rfl) rfl) rfl rfl) trivial ?_
  refine S.eff 3 rfl rfl (.nf (v2 := .ptr 1 [] 0) (H2 := [.cells (E_TLock a1), .cells (E_TLock a2)]) (.box (lk 2 rfl rfl) rfl) rfl rfl) trivial ?_
  refine S.eff 4 rfl rfl (.nf (v2 := .ptr 2 [] 0) (H2 := [.cells (E_TLock a1), .cells (E_TLock a2), .cells (E_TLock (default : TLock))]) (.alloc zv30) rfl rfl) trivial ?_
  refine S.nil ?_
  refine thenQ_n ?_
  refine AWp.wk (Wk.freeze 0 rfl rfl (.same (lk 0 rfl rfl) (.same (lk 1 rfl rfl) (.cons (lk 2 rfl rfl) rfl (.ptr .nil (by first | rfl | omega)) .nil))) (.refl _)) ?_
  refine AWp.wk (Wk.freeze 1 rfl rfl (.same (lk 0 rfl rfl) (.cons (lk 1 rfl rfl) rfl (.ptr .nil (by first | rfl | omega)) (.same (lk 2 rfl rfl) .nil))) (.refl _)) ?_
  refine AWp.seq ?_
  refine AWp.seq ?_
  refine W.reg [0, 1, 2] rfl ?_
  refine S.sil 5 rfl rfl (fun _ hF => .loadC sz30 ag30 (lk 1 rfl rfl) (ty_TLock.fl a2) rfl) ?_
  refine S.sil 6 rfl rfl (fun _ hF => .loadC sz30 ag30 (lk 3 rfl rfl) (ty_TLock.fl a1) rfl) ?_
  obtain ⟨r3, m3, h⟩ := h.bnd
  refine S.sil 7 rfl rfl (fun _ hF => .callQ ent105 cF (.c (lk 1 rfl rfl) (V.sub.refl _) (.c (lk 0 rfl rfl) (V.sub.refl _) .nil)) (C_usufructref05_Behind m3)) ?_
  refine S.nil ?_
  refine thenQ_n ?_
  refine AWp.condM (lk 0 rfl rfl) h (fun c1 h => ?_) (fun c1 h => ?_)
  · skip
    refine AWp.seq ?_
    refine W.reg [0, 1] rfl ?_
    refine S.sil 8 rfl rfl (fun _ hF => .loadC sz30 ag30 (lk 4 rfl rfl) (ty_TLock.fl a2) rfl) ?_
    refine S.effN rfl rfl (.nf (H2 := [.dead, .dead, .cells (E_TLock a2)]) (.storeP sz30 (lk 4 rfl rfl) (lk 0 rfl rfl) rfl (.refl _) rfl .nil (by first | rfl | omega) .nil (ty_TLock.fl a2) (ty_TLock.fl (default : TLock)) rfl) rfl rfl) trivial ?_
    refine S.nil ?_
    refine thenQ_n ?_
    refine AWp.ret ?_
    refine thenQ_r ?_
    refine endF_wk (Wk.freeze 2 rfl rfl (.cons (lk 4 rfl rfl) rfl (.ptr .nil (by first | rfl | omega)) .nil) (.refl _)) ?_
    obtain rfl := h.ret
    exact endF1 rfl (Wk.selS [] .nil rfl (SelE.leaf (lk 0 rfl rfl) rfl (.refl _) (fun m => (lt_cptr (ty_TLock.lt _ _))) .nil) .nil) (.cellC sz30 ag30 (lk 0 rfl rfl) (ty_TLock.fl _) rfl) rfl rfl
  · skip
    refine AWp.skip ?_
    refine thenQ_n ?_
    refine AWp.seq ?_
    refine W.reg [0, 1] rfl ?_
    refine S.sil 9 rfl rfl (fun _ hF => .loadC sz30 ag30 (lk 5 rfl rfl) (ty_TLock.fl a1) rfl) ?_
    refine S.effN rfl rfl (.nf (H2 := [.dead, .dead, .cells (E_TLock a1)]) (.storeP sz30 (lk 4 rfl rfl) (lk 0 rfl rfl) rfl (.refl _) rfl .nil (by first | rfl | omega) .nil (ty_TLock.fl a1) (ty_TLock.fl (default : TLock)) rfl) rfl rfl) trivial ?_
    refine S.nil ?_
    refine thenQ_n ?_
    refine AWp.ret ?_
    refine endF_wk (Wk.freeze 2 rfl rfl (.cons (lk 4 rfl rfl) rfl (.ptr .nil (by first | rfl | omega)) .nil) (.refl _)) ?_
    obtain rfl := h.ret
    exact endF1 rfl (Wk.selS [] .nil rfl (SelE.leaf (lk 0 rfl rfl) rfl (.refl _) (fun m => (lt_cptr (ty_TLock.lt _ _))) .nil) .nil) (.cellC sz30 ag30 (lk 0 rfl rfl) (ty_TLock.fl _) rfl) rfl rfl
theorem C_usufructref07_Join {a1 : TField} {a2 : TField} {r : TField × Int} (h : usufructref07_Join a1 a2 = some r) : PureC Pg 26 [E_TField a1, E_TField a2] (.tup [E_TField r.1, (V.int .i64) r.2]) := by
  refine PureC.ofF (CallSpec.of_bodyF 64 0 fn26 rfl rfl rfl (Nat.le_of_ble_eq_true rfl) ?_) (ltL_c (ty_TField.lt _ _) (ltL_c (ty_TField.lt _ _) ltL_nil)) (lt_tup (ltL_c (ty_TField.lt _ _) (ltL_c ((TyOk.int .i64).lt _ _) ltL_nil)))
  replace h := Ok.of h
  unfold usufructref07_Join at h
  refine AWp.seq ?_
  refine W.reg [0, 1, 2, 3] rfl ?_
  refine S.eff 2 rfl rfl (.nf (v2 := .ptr 0 [] 0) (H2 := [.cells (E_TField a1)]) (.box (lk 0 rfl rfl) rfl) rfl rfl) trivial ?_
  refine S.eff 3 rfl rfl (.nf (v2 := .ptr 1 [] 0) (H2 := [.cells (E_TField a1), .cells (E_TField a2)]) (.box (lk 2 rfl rfl) rfl) rfl rfl) trivial ?_
  refine S.eff 4 rfl rfl (.nf (v2 := .ptr 2 [] 0) (H2 := [.cells (E_TField a1), .cells (E_TField a2), .cells (.st [V.str (default : ByteArray), (V.int .i64) 0, (V.int .i64) 0, E_TCounter (default : TCounter), E_TLock (default : TLock), .nils])]) (.alloc zv33) rfl rfl) trivial ?_
  refine S.sil 5 rfl rfl (fun _ hF => .assign cI) ?_
  refine S.nil ?_
  refine thenQ_n ?_
  refine AWp.wk (Wk.freeze 1 rfl rfl (.same (lk 0 rfl rfl) (.same (lk 1 rfl rfl) (.cons (lk 2 rfl rfl) rfl (.ptr .nil (by first | rfl | omega)) (.same (lk 3 rfl rfl) .nil)))) (.refl _)) ?_
  refine AWp.seq ?_
  refine AWp.seq ?_
  refine W.reg [0, 1, 2, 3, 4, 5, 6, 7, 8, 9, 10, 11, 12, 13, 14, 15, 16, 17, 18] rfl ?_
  refine S.sil 9 rfl rfl (fun _ hF => .fieldAddr lay33 rfl rfl (lk 3 rfl rfl)) ?_
  refine S.qui 10 rfl rfl (fun _ => .loadP sz9 ag9 (lk 0 rfl rfl) rfl (.st rfl flL_nil .nil) (by first | rfl | omega) rfl rfl) ?_
  refine S.sil 11 rfl rfl (fun _ hF => .fieldAddrC lay33 rfl rfl (lk 4 rfl rfl) rfl flL_nil) ?_
  refine S.sil 12 rfl rfl (fun _ hF => .loadC sz9 ag9 (lk 0 rfl rfl) rfl rfl) ?_
  refine S.sil 13 rfl rfl (fun _ hF => .neqS (lk 2 rfl rfl) (lk 0 rfl rfl)) ?_
  refine S.sil 14 rfl rfl (fun _ hF => .move (lk 0 rfl rfl)) ?_
  refine S.gsil 15 5 14 false rfl rfl rfl (lk 0 rfl rfl) (fun hB _ hF => .fieldAddr lay33 rfl rfl (lk 9 rfl rfl)) ?_
  refine S.gqui 16 5 14 false rfl rfl rfl (lk 1 rfl rfl) (fun hB _ => .loadP sz3 ag3 (ifT hB (lk 0 rfl rfl)) rfl (.st rfl (flL_c (show flen _ = 1 from rfl) flL_nil) .nil) (by first | rfl | omega) rfl rfl) ?_
  refine S.gsil 17 5 14 false rfl rfl rfl (lk 2 rfl rfl) (fun hB _ hF => .fieldAddrC lay33 rfl rfl (lk 10 rfl rfl) rfl (flL_c (show flen _ = 1 from rfl) flL_nil)) ?_
  refine S.gsil 18 5 14 false rfl rfl rfl (lk 3 rfl rfl) (fun hB _ hF => .loadC sz3 ag3 (ifT hB (lk 0 rfl rfl)) rfl rfl) ?_
  refine S.gsil 19 5 14 false rfl rfl rfl (lk 4 rfl rfl) (fun hB _ hF => .neq (ifT hB (lk 2 rfl rfl)) (ifT hB (lk 0 rfl rfl))) ?_
  refine S.sil 20 rfl rfl (fun _ hF => .pickOr (lk 5 rfl rfl) cB (fun h => ifT h (lk 0 rfl rfl))) ?_
  refine S.sil 21 rfl rfl (fun _ hF => .move (lk 0 rfl rfl)) ?_
  refine S.gsil 22 12 21 false rfl rfl rfl (lk 0 rfl rfl) (fun hB _ hF => .fieldAddr lay33 rfl rfl (lk 16 rfl rfl)) ?_
  refine S.gqui 23 12 21 false rfl rfl rfl (lk 1 rfl rfl) (fun hB _ => .loadP sz3 ag3 (ifT hB (lk 0 rfl rfl)) rfl (.st rfl (flL_c (show flen _ = 1 from rfl) (flL_c (show flen _ = 1 from rfl) flL_nil)) .nil) (by first | rfl | omega) rfl rfl) ?_
  refine S.gsil 24 12 21 false rfl rfl rfl (lk 2 rfl rfl) (fun hB _ hF => .fieldAddrC lay33 rfl rfl (lk 17 rfl rfl) rfl (flL_c (show flen _ = 1 from rfl) (flL_c (show flen _ = 1 from rfl) flL_nil))) ?_
  refine S.gsil 25 12 21 false rfl rfl rfl (lk 3 rfl rfl) (fun hB _ hF => .loadC sz3 ag3 (ifT hB (lk 0 rfl rfl)) rfl rfl) ?_
  refine S.gsil 26 12 21 false rfl rfl rfl (lk 4 rfl rfl) (fun hB _ hF => .neq (ifT hB (lk 2 rfl rfl)) (ifT hB (lk 0 rfl rfl))) ?_
  obtain ⟨v3, ev3, h⟩ := h.nam
  refine S.sil 27 rfl rfl (fun _ hF => .nv (.pickOr (lk 5 rfl rfl) cB (fun h => ifT h (lk 0 rfl rfl))) (congrArg V.bool ev3.symm)) ?_
  refine S.nil ?_
  refine thenQ_n ?_
  refine AWp.prune (.eq (lk 0 rfl rfl) rfl (.eq (lk 19 rfl rfl) rfl (.eq (lk 20 rfl rfl) rfl (.eq (lk 21 rfl rfl) rfl (.eq (lk 22 rfl rfl) rfl .nil))))) ?_
  refine AWp.condM (lk 0 rfl rfl) h (fun c1 h => ?_) (fun c1 h => ?_)
  · skip
    refine AWp.seq ?_
    refine W.reg [0, 1, 2] rfl ?_
    obtain ⟨v4, ev4, h⟩ := h.nam
    refine S.sil 28 rfl rfl (fun _ hF => .nv (.vs (v := .st [V.str (default : ByteArray), (V.int .i64) 0, (V.int .i64) 0, E_TCounter (default : TCounter), E_TLock (default : TLock), .nils]) (v2 := E_TField (⟨(default : ByteArray), 0, 0, (default : TCounter), (default : TLock), ([] : List THold)⟩ : TField)) (.buildStW lay33 zv33 rfl .nil) rfl (.st (.cons (.refl _) (.cons (.refl _) (.cons (.refl _) (.cons (.refl _) (.cons (.refl _) (.cons (.nils_no _) .nil)))))))) (congrArg E_TField ev4.symm)) ?_
    refine S.effN rfl rfl (.nf (H2 := [.cells (E_TField a1), .dead, .cells (E_TField v4)]) (.storeP sz33 (lk 3 rfl rfl) (lk 0 rfl rfl) rfl (.refl _) rfl .nil (by first | rfl | omega) .nil (ty_TField.fl v4) (fl_st (flL_c (show flen _ = 1 from rfl) (flL_c (show flen _ = 1 from rfl) (flL_c (show flen _ = 1 from rfl) (flL_c (ty_TCounter.fl (default : TCounter)) (flL_c (ty_TLock.fl (default : TLock)) (flL_c (show flen _ = 1 from rfl) flL_nil))))))) rfl) rfl rfl) trivial ?_
    refine S.sil 5 rfl rfl (fun _ hF => .assign cI) ?_
    refine S.nil ?_
    refine thenQ_n ?_
    refine AWp.ret ?_
    refine thenQ_r ?_
    refine endF_wk (Wk.freeze 2 rfl rfl (.same (lk 0 rfl rfl) (.same (lk 0 rfl rfl) (.cons (lk 4 rfl rfl) rfl (.ptr .nil (by first | rfl | omega)) .nil))) (.refl _)) ?_
    obtain rfl := h.ret
    exact endFN rfl (Wk.selS [] .nil rfl (SelE.leaf (lk 2 rfl rfl) rfl (.refl _) (fun m => (lt_cptr (ty_TField.lt _ _))) (SelE.leaf (lk 0 rfl rfl) rfl (.refl _) (fun m => ((TyOk.int .i64).lt _ _)) .nil)) .nil) (.cons (.cellC sz33 ag33 (lk 0 rfl rfl) (ty_TField.fl _) rfl) (.cons (.tmp (lk 1 rfl rfl) rfl) .nil)) rfl rfl rfl
  · skip
    refine AWp.skip ?_
    refine thenQ_n ?_
    refine AWp.seq ?_
    refine W.reg [0, 1, 2, 3, 4, 5, 6, 7, 8, 9, 10] rfl ?_
    refine S.sil 30 rfl rfl (fun _ hF => .fieldAddr lay33 rfl rfl (lk 4 rfl rfl)) ?_
    refine S.qui 31 rfl rfl (fun _ => .loadP sz28 ag28 (lk 0 rfl rfl) rfl (.st rfl (flL_c (show flen _ = 1 from rfl) (flL_c (show flen _ = 1 from rfl) (flL_c (show flen _ = 1 from rfl) flL_nil))) .nil) (by first | rfl | omega) (ty_TCounter.fl a1.Counter) rfl) ?_
    refine S.sil 32 rfl rfl (fun _ hF => .fieldAddrC lay33 rfl rfl (lk 5 rfl rfl) rfl (flL_c (show flen _ = 1 from rfl) (flL_c (show flen _ = 1 from rfl) (flL_c (show flen _ = 1 from rfl) flL_nil)))) ?_
    refine S.sil 33 rfl rfl (fun _ hF => .loadC sz28 ag28 (lk 0 rfl rfl) (ty_TCounter.fl a2.Counter) rfl) ?_
    obtain ⟨r5, m5, h⟩ := h.bnd
    refine S.sil 34 rfl rfl (fun _ hF => .callQ ent54 cF (.c (lk 2 rfl rfl) (V.sub.refl _) (.c (lk 0 rfl rfl) (V.sub.refl _) .nil)) (C_usufructref04_Join m5)) ?_
    refine S.sil 29 rfl rfl (fun _ hF => .move (lk 0 rfl rfl)) ?_
    refine S.sil 35 rfl rfl (fun _ hF => .extract (lk 0 rfl rfl) rfl) ?_
    refine S.sil 36 rfl rfl (fun _ hF => .extract (lk 1 rfl rfl) rfl) ?_
    refine S.eff 6 rfl rfl (.nf (v2 := .ptr 3 [] 0) (H2 := [.cells (E_TField a1), .dead, .cells (.st [V.str (default : ByteArray), (V.int .i64) 0, (V.int .i64) 0, E_TCounter (default : TCounter), E_TLock (default : TLock), .nils]), .cells (E_TCounter (default : TCounter))]) (.alloc zv28) rfl rfl) trivial ?_
    refine S.effN rfl rfl (.nf (H2 := [.cells (E_TField a1), .dead, .cells (.st [V.str (default : ByteArray), (V.int .i64) 0, (V.int .i64) 0, E_TCounter (default : TCounter), E_TLock (default : TLock), .nils]), .cells (E_TCounter r5.1)]) (.storeP sz28 (lk 0 rfl rfl) (lk 2 rfl rfl) rfl (.refl _) rfl .nil (by first | rfl | omega) .nil (ty_TCounter.fl r5.1) (ty_TCounter.fl (default : TCounter)) rfl) rfl rfl) trivial ?_
    refine S.sil 7 rfl rfl (fun _ hF => .assign (lk 1 rfl rfl)) ?_
    refine S.nil ?_
    refine thenQ_n ?_
    refine AWp.wk (Wk.freeze 3 rfl rfl (.same (lk 0 rfl rfl) (.cons (lk 1 rfl rfl) rfl (.ptr .nil (by first | rfl | omega)) (.same (lk 11 rfl rfl) (.same (lk 12 rfl rfl) (.same (lk 13 rfl rfl) (.same (lk 14 rfl rfl) .nil)))))) (.refl _)) ?_
    refine AWp.seq ?_
    refine AWp.seq ?_
    refine W.reg [0, 1] rfl ?_
    refine S.sil 37 rfl rfl (fun _ hF => .move (lk 0 rfl rfl)) ?_
    refine S.sil 38 rfl rfl (fun _ hF => .neq (lk 0 rfl rfl) cI) ?_
    refine S.nil ?_
    refine thenQ_n ?_
    refine AWp.condM (lk 0 rfl rfl) h (fun c2 h => ?_) (fun c2 h => ?_)
    · skip
      refine AWp.seq ?_
      refine W.reg [0, 1, 2, 3] rfl ?_
      obtain ⟨v6, ev6, h⟩ := h.nam
      refine S.sil 39 rfl rfl (fun _ hF => .nv (.vs (v := .st [V.str (default : ByteArray), (V.int .i64) 0, (V.int .i64) 0, E_TCounter (default : TCounter), E_TLock (default : TLock), .nils]) (v2 := E_TField (⟨(default : ByteArray), 0, 0, (default : TCounter), (default : TLock), ([] : List THold)⟩ : TField)) (.buildStW lay33 zv33 rfl .nil) rfl (.st (.cons (.refl _) (.cons (.refl _) (.cons (.refl _) (.cons (.refl _) (.cons (.refl _) (.cons (.nils_no _) .nil)))))))) (congrArg E_TField ev6.symm)) ?_
      refine S.sil 40 rfl rfl (fun _ hF => .move (lk 3 rfl rfl)) ?_
      refine S.effN rfl rfl (.nf (H2 := [.cells (E_TField a1), .dead, .cells (E_TField v6), .dead]) (.storeP sz33 (lk 7 rfl rfl) (lk 1 rfl rfl) rfl (.refl _) rfl .nil (by first | rfl | omega) .nil (ty_TField.fl v6) (fl_st (flL_c (show flen _ = 1 from rfl) (flL_c (show flen _ = 1 from rfl) (flL_c (show flen _ = 1 from rfl) (flL_c (ty_TCounter.fl (default : TCounter)) (flL_c (ty_TLock.fl (default : TLock)) (flL_c (show flen _ = 1 from rfl) flL_nil))))))) rfl) rfl rfl) trivial ?_
      refine S.sil 5 rfl rfl (fun _ hF => .assign (lk 0 rfl rfl)) ?_
      refine S.nil ?_
      refine thenQ_n ?_
      refine AWp.ret ?_
      refine thenQ_r ?_
      refine endF_wk (Wk.freeze 2 rfl rfl (.same (lk 0 rfl rfl) (.same (lk 0 rfl rfl) (.cons (lk 8 rfl rfl) rfl (.ptr .nil (by first | rfl | omega)) .nil))) (.refl _)) ?_
      obtain rfl := h.ret
      exact endFN rfl (Wk.selS [] .nil rfl (SelE.leaf (lk 2 rfl rfl) rfl (.refl _) (fun m => (lt_cptr (ty_TField.lt _ _))) (SelE.leaf (lk 0 rfl rfl) rfl (.refl _) (fun m => ((TyOk.int .i64).lt _ _)) .nil)) .nil) (.cons (.cellC sz33 ag33 (lk 0 rfl rfl) (ty_TField.fl _) rfl) (.cons (.tmp (lk 1 rfl rfl) rfl) .nil)) rfl rfl rfl
    · skip
      refine AWp.skip ?_
      refine thenQ_n ?_
      refine AWp.seq ?_
      refine W.reg [0, 1, 2, 3, 4, 5, 6, 7, 8, 9] rfl ?_
      refine S.sil 42 rfl rfl (fun _ hF => .fieldAddr lay33 rfl rfl (lk 7 rfl rfl)) ?_
      refine S.qui 43 rfl rfl (fun _ => .loadP sz31 ag31 (lk 0 rfl rfl) rfl (.st rfl (flL_c (show flen _ = 1 from rfl) (flL_c (show flen _ = 1 from rfl) (flL_c (show flen _ = 1 from rfl) (flL_c (ty_TCounter.fl a1.Counter) (flL_c (ty_TLock.fl a1.Lock) flL_nil))))) .nil) (by first | rfl | omega) rfl rfl) ?_
      refine S.sil 44 rfl rfl (fun _ hF => .fieldAddrC lay33 rfl rfl (lk 8 rfl rfl) rfl (flL_c (show flen _ = 1 from rfl) (flL_c (show flen _ = 1 from rfl) (flL_c (show flen _ = 1 from rfl) (flL_c (ty_TCounter.fl a2.Counter) (flL_c (ty_TLock.fl a2.Lock) flL_nil)))))) ?_
      refine S.sil 45 rfl rfl (fun _ hF => .loadC sz31 ag31 (lk 0 rfl rfl) rfl rfl) ?_
      obtain ⟨r7, m7, h⟩ := h.bnd
      refine S.sil 46 rfl rfl (fun _ hF => .callQ ent28 cF (.c (lk 2 rfl rfl) (V.sub.refl _) (.c (lk 0 rfl rfl) (V.sub.refl _) .nil)) (C_usufructref06_Join m7)) ?_
      refine S.sil 41 rfl rfl (fun _ hF => .move (lk 0 rfl rfl)) ?_
      refine S.sil 47 rfl rfl (fun _ hF => .extract (lk 0 rfl rfl) rfl) ?_
      refine S.sil 48 rfl rfl (fun _ hF => .extract (lk 1 rfl rfl) rfl) ?_
      refine S.sil 8 rfl rfl (fun _ hF => .assign (lk 1 rfl rfl)) ?_
      refine S.sil 7 rfl rfl (fun _ hF => .assign (lk 1 rfl rfl)) ?_
      refine S.nil ?_
      refine thenQ_n ?_
      refine AWp.prune (.eq (lk 0 rfl rfl) rfl (.eq (lk 1 rfl rfl) rfl (.eq (lk 13 rfl rfl) rfl (.eq (lk 14 rfl rfl) rfl (.eq (lk 15 rfl rfl) rfl (.eq (lk 16 rfl rfl) rfl (.eq (lk 17 rfl rfl) rfl .nil))))))) ?_
      refine AWp.seq ?_
      refine AWp.seq ?_
      refine W.reg [0, 1] rfl ?_
      refine S.sil 49 rfl rfl (fun _ hF => .move (lk 0 rfl rfl)) ?_
      refine S.sil 50 rfl rfl (fun _ hF => .neq (lk 0 rfl rfl) cI) ?_
      refine S.nil ?_
      refine thenQ_n ?_
      refine AWp.condM (lk 0 rfl rfl) h (fun c3 h => ?_) (fun c3 h => ?_)
      · skip
        refine AWp.seq ?_
        refine W.reg [0, 1, 2, 3] rfl ?_
        obtain ⟨v8, ev8, h⟩ := h.nam
        refine S.sil 51 rfl rfl (fun _ hF => .nv (.vs (v := .st [V.str (default : ByteArray), (V.int .i64) 0, (V.int .i64) 0, E_TCounter (default : TCounter), E_TLock (default : TLock), .nils]) (v2 := E_TField (⟨(default : ByteArray), 0, 0, (default : TCounter), (default : TLock), ([] : List THold)⟩ : TField)) (.buildStW lay33 zv33 rfl .nil) rfl (.st (.cons (.refl _) (.cons (.refl _) (.cons (.refl _) (.cons (.refl _) (.cons (.refl _) (.cons (.nils_no _) .nil)))))))) (congrArg E_TField ev8.symm)) ?_
        refine S.sil 52 rfl rfl (fun _ hF => .move (lk 3 rfl rfl)) ?_
        refine S.effN rfl rfl (.nf (H2 := [.cells (E_TField a1), .dead, .cells (E_TField v8), .dead]) (.storeP sz33 (lk 8 rfl rfl) (lk 1 rfl rfl) rfl (.refl _) rfl .nil (by first | rfl | omega) .nil (ty_TField.fl v8) (fl_st (flL_c (show flen _ = 1 from rfl) (flL_c (show flen _ = 1 from rfl) (flL_c (show flen _ = 1 from rfl) (flL_c (ty_TCounter.fl (default : TCounter)) (flL_c (ty_TLock.fl (default : TLock)) (flL_c (show flen _ = 1 from rfl) flL_nil))))))) rfl) rfl rfl) trivial ?_
        refine S.sil 5 rfl rfl (fun _ hF => .assign (lk 0 rfl rfl)) ?_
        refine S.nil ?_
        refine thenQ_n ?_
        refine AWp.ret ?_
        refine thenQ_r ?_
        refine endF_wk (Wk.freeze 2 rfl rfl (.same (lk 0 rfl rfl) (.same (lk 0 rfl rfl) (.cons (lk 9 rfl rfl) rfl (.ptr .nil (by first | rfl | omega)) .nil))) (.refl _)) ?_
        obtain rfl := h.ret
        exact endFN rfl (Wk.selS [] .nil rfl (SelE.leaf (lk 2 rfl rfl) rfl (.refl _) (fun m => (lt_cptr (ty_TField.lt _ _))) (SelE.leaf (lk 0 rfl rfl) rfl (.refl _) (fun m => ((TyOk.int .i64).lt _ _)) .nil)) .nil) (.cons (.cellC sz33 ag33 (lk 0 rfl rfl) (ty_TField.fl _) rfl) (.cons (.tmp (lk 1 rfl rfl) rfl) .nil)) rfl rfl rfl
      · skip
        refine AWp.skip ?_
        refine thenQ_n ?_
        refine AWp.seq ?_
        refine W.reg [0, 1, 2] rfl ?_
        refine S.sil 53 rfl rfl (fun _ hF => .loadC sz28 ag28 (lk 4 rfl rfl) (ty_TCounter.fl r5.1) rfl) ?_
        refine S.sil 54 rfl rfl (fun _ hF => .fieldAddr lay33 rfl rfl (lk 9 rfl rfl)) ?_
        obtain ⟨v9, ev9, h⟩ := h.nam
        refine S.effN rfl rfl (.nf (H2 := [.cells (E_TField v9), .dead, .cells (.st [V.str (default : ByteArray), (V.int .i64) 0, (V.int .i64) 0, E_TCounter (default : TCounter), E_TLock (default : TLock), .nils]), .dead]) (.storeP sz28 (lk 0 rfl rfl) (lk 1 rfl rfl) rfl (.refl _) rfl (.st rfl (flL_c (show flen _ = 1 from rfl) (flL_c (show flen _ = 1 from rfl) (flL_c (show flen _ = 1 from rfl) flL_nil))) .nil) (by first | rfl | omega) (.st rfl .nil rfl) (ty_TCounter.fl r5.1) (ty_TCounter.fl a1.Counter) (congrArg (fun z => ([AObj.cells (E_TField z), .dead, .cells (.st [V.str (default : ByteArray), (V.int .i64) 0, (V.int .i64) 0, E_TCounter (default : TCounter), E_TLock (default : TLock), .nils]), .dead] : List AObj)) ev9.symm)) rfl rfl) trivial ?_
        refine S.nil ?_
        refine thenQ_n ?_
        refine AWp.seq ?_
        refine W.reg [0, 1, 2] rfl ?_
        refine S.sil 55 rfl rfl (fun _ hF => .move (lk 5 rfl rfl)) ?_
        refine S.sil 56 rfl rfl (fun _ hF => .fieldAddr lay33 rfl rfl (lk 11 rfl rfl)) ?_
        obtain ⟨v10, ev10, h⟩ := h.nam
        refine S.effN rfl rfl (.nf (H2 := [.cells (E_TField v10), .dead, .cells (.st [V.str (default : ByteArray), (V.int .i64) 0, (V.int .i64) 0, E_TCounter (default : TCounter), E_TLock (default : TLock), .nils]), .dead]) (.storeP sz31 (lk 0 rfl rfl) (lk 1 rfl rfl) rfl (.refl _) rfl (.st rfl (flL_c (show flen _ = 1 from rfl) (flL_c (show flen _ = 1 from rfl) (flL_c (show flen _ = 1 from rfl) (flL_c (ty_TCounter.fl v9.Counter) (flL_c (ty_TLock.fl v9.Lock) flL_nil))))) .nil) (by first | rfl | omega) (.st rfl .nil rfl) rfl rfl (congrArg (fun z => ([AObj.cells (E_TField z), .dead, .cells (.st [V.str (default : ByteArray), (V.int .i64) 0, (V.int .i64) 0, E_TCounter (default : TCounter), E_TLock (default : TLock), .nils]), .dead] : List AObj)) ev10.symm)) rfl rfl) trivial ?_
        refine S.nil ?_
        refine thenQ_n ?_
        refine AWp.seq ?_
        refine W.reg [0, 1, 2, 3, 4, 5, 6] rfl ?_
        refine S.sil 57 rfl rfl (fun _ hF => .fieldAddr lay33 rfl rfl (lk 12 rfl rfl)) ?_
        refine S.qui 58 rfl rfl (fun _ => .loadP sz30 ag30 (lk 0 rfl rfl) rfl (.st rfl (flL_c (show flen _ = 1 from rfl) (flL_c (show flen _ = 1 from rfl) (flL_c (show flen _ = 1 from rfl) (flL_c (ty_TCounter.fl v10.Counter) flL_nil)))) .nil) (by first | rfl | omega) (ty_TLock.fl v10.Lock) rfl) ?_
        refine S.sil 59 rfl rfl (fun _ hF => .fieldAddrC lay33 rfl rfl (lk 13 rfl rfl) rfl (flL_c (show flen _ = 1 from rfl) (flL_c (show flen _ = 1 from rfl) (flL_c (show flen _ = 1 from rfl) (flL_c (ty_TCounter.fl a2.Counter) flL_nil))))) ?_
        refine S.sil 60 rfl rfl (fun _ hF => .loadC sz30 ag30 (lk 0 rfl rfl) (ty_TLock.fl a2.Lock) rfl) ?_
        obtain ⟨r11, m11, h⟩ := h.bnd
        refine S.sil 61 rfl rfl (fun _ hF => .callQ ent55 cF (.c (lk 2 rfl rfl) (V.sub.refl _) (.c (lk 0 rfl rfl) (V.sub.refl _) .nil)) (C_usufructref05_Join m11)) ?_
        refine S.sil 62 rfl rfl (fun _ hF => .fieldAddr lay33 rfl rfl (lk 17 rfl rfl)) ?_
        obtain ⟨v12, ev12, h⟩ := h.nam
        refine S.effN rfl rfl (.nf (H2 := [.cells (E_TField v12), .dead, .cells (.st [V.str (default : ByteArray), (V.int .i64) 0, (V.int .i64) 0, E_TCounter (default : TCounter), E_TLock (default : TLock), .nils]), .dead]) (.storeP sz30 (lk 0 rfl rfl) (lk 1 rfl rfl) rfl (.refl _) rfl (.st rfl (flL_c (show flen _ = 1 from rfl) (flL_c (show flen _ = 1 from rfl) (flL_c (show flen _ = 1 from rfl) (flL_c (ty_TCounter.fl v10.Counter) flL_nil)))) .nil) (by first | rfl | omega) (.st rfl .nil rfl) (ty_TLock.fl r11) (ty_TLock.fl v10.Lock) (congrArg (fun z => ([AObj.cells (E_TField z), .dead, .cells (.st [V.str (default : ByteArray), (V.int .i64) 0, (V.int .i64) 0, E_TCounter (default : TCounter), E_TLock (default : TLock), .nils]), .dead] : List AObj)) ev12.symm)) rfl rfl) trivial ?_
        refine S.nil ?_
        refine thenQ_n ?_
        refine AWp.prune (.eq (lk 15 rfl rfl) rfl (.eq (lk 16 rfl rfl) rfl (.eq (lk 18 rfl rfl) rfl .nil))) ?_
        refine AWp.seq ?_
        refine W.reg [0, 1, 2] rfl ?_
        refine S.qui 63 rfl rfl (fun _ => .loadP sz33 ag33 (lk 2 rfl rfl) rfl .nil (by first | rfl | omega) (ty_TField.fl v12) rfl) ?_
        refine S.effN rfl rfl (.nf (H2 := [.cells (E_TField v12), .dead, .cells (E_TField v12), .dead]) (.storeP sz33 (lk 2 rfl rfl) (lk 0 rfl rfl) rfl (.refl _) rfl .nil (by first | rfl | omega) .nil (ty_TField.fl v12) (fl_st (flL_c (show flen _ = 1 from rfl) (flL_c (show flen _ = 1 from rfl) (flL_c (show flen _ = 1 from rfl) (flL_c (ty_TCounter.fl (default : TCounter)) (flL_c (ty_TLock.fl (default : TLock)) (flL_c (show flen _ = 1 from rfl) flL_nil))))))) rfl) rfl rfl) trivial ?_
        refine S.sil 5 rfl rfl (fun _ hF => .assign cI) ?_
        refine S.nil ?_
        refine thenQ_n ?_
        refine AWp.ret ?_
        refine endF_wk (Wk.freeze 2 rfl rfl (.same (lk 0 rfl rfl) (.same (lk 0 rfl rfl) (.cons (lk 3 rfl rfl) rfl (.ptr .nil (by first | rfl | omega)) .nil))) (.refl _)) ?_
        obtain rfl := h.ret
        exact endFN rfl (Wk.selS [] .nil rfl (SelE.leaf (lk 2 rfl rfl) rfl (.refl _) (fun m => (lt_cptr (ty_TField.lt _ _))) (SelE.leaf (lk 0 rfl rfl) rfl (.refl _) (fun m => ((TyOk.int .i64).lt _ _)) .nil)) .nil) (.cons (.cellC sz33 ag33 (lk 0 rfl rfl) (ty_TField.fl _) rfl) (.cons (.tmp (lk 1 rfl rfl) rfl) .nil)) rfl rfl rfl
theorem C_vec_Join {a1 : Vector Int 16} {a2 : Vector Int 16} {r : (Vector Int 16)} (h : vec_Join a1 a2 = some r) : PureC Pg 149 [E_A16_i64 a1, E_A16_i64 a2] (E_A16_i64 r) := by
  refine PureC.ofF (CallSpec.of_bodyF 20 0 fn149 rfl rfl rfl (Nat.le_of_ble_eq_true rfl) ?_) (ltL_c (ty_A16_i64.lt _ _) (ltL_c (ty_A16_i64.lt _ _) ltL_nil)) (ty_A16_i64.lt _ _)
  replace h := Ok.of h
  unfold vec_Join at h
  refine AWp.seq ?_
  refine W.reg [0, 1, 2] rfl ?_
  refine S.eff 2 rfl rfl (.nf (v2 := .ptr 0 [] 0) (H2 := [.cells (E_A16_i64 a1)]) (.box (lk 0 rfl rfl) rfl) rfl rfl) trivial ?_
  refine S.eff 3 rfl rfl (.nf (v2 := .ptr 1 [] 0) (H2 := [.cells (E_A16_i64 a1), .cells (E_A16_i64 a2)]) (.box (lk 2 rfl rfl) rfl) rfl rfl) trivial ?_
  refine S.eff 4 rfl rfl (.nf (v2 := .ptr 2 [] 0) (H2 := [.cells (E_A16_i64 a1), .cells (E_A16_i64 a2), .cells (E_A16_i64 (default : Vector Int 16))]) (.alloc zv23) rfl rfl) trivial ?_
  refine S.nil ?_
  refine thenQ_n ?_
  refine AWp.wk (Wk.freeze 1 rfl rfl (.same (lk 0 rfl rfl) (.cons (lk 1 rfl rfl) rfl (.ptr .nil (by first | rfl | omega)) (.same (lk 2 rfl rfl) .nil))) (.refl _)) ?_
  refine AWp.seq ?_
  refine AWp.seq ?_
  refine W.reg [0] rfl ?_
  refine S.sil 6 rfl rfl (fun _ hF => .move cI) ?_
  refine S.nil ?_
  refine thenQ_n ?_
  refine AWp.cutX (fun x5 => ⟨[(4, .ptr 0 [] 0), (2, .ptr 1 [] 0)], [.cells (E_A16_i64 (default : Vector Int 16)), .cells (E_A16_i64 x5)]⟩) nc_then h (fun q3 hq3 => ?_) (fun x5 h => ?_)
  · refine AWp.block ?_
    refine AWp.loopT (fun s4 => ⟨[(6, (V.int .i64) s4.1), (4, .ptr 0 [] 0), (3, .cptr (E_A16_i64 a2)), (2, .ptr 1 [] 0)], [.cells (E_A16_i64 (default : Vector Int 16)), .cells (E_A16_i64 s4.2)]⟩) hq3 (Wk.selS [2, 0] (by decide) rfl (SelE.leaf (lk 0 rfl rfl) rfl (.refl _) (fun m => ((TyOk.int .i64).lt _ _)) (SelE.spec (lk 1 rfl rfl) rfl (.refl _) rfl rfl (SelE.leaf (lk 2 rfl rfl) rfl (.refl _) (fun m => (lt_cptr (ty_A16_i64.lt _ _))) (SelE.spec (lk 3 rfl rfl) rfl (.refl _) rfl rfl .nil)))) (.cons (lt_cells (ty_A16_i64.lt (default : Vector Int 16) _)) rfl (RSub.trans (.refl _) (.eq (ty_A16_i64.cl _ _).symm)) (.cons (lt_cells (ty_A16_i64.lt _ _)) rfl (RSub.trans (.refl _) (.eq (ty_A16_i64.cl _ _).symm)) .nil))) (fun _ s4 h3 => ?_)
    rw [vec_Join_L1] at h3
    refine AWp.seq ?_
    refine W.reg [0] rfl ?_
    refine S.sil 7 rfl rfl (fun _ hF => .lss (lk 0 rfl rfl) cI) ?_
    refine S.nil ?_
    refine thenQ_n ?_
    refine AWp.seq ?_
    refine AWp.condM (lk 0 rfl rfl) h3 (fun c1 h3 => ?_) (fun c1 h3 => ?_)
    · skip
      refine AWp.skip ?_
      refine thenQ_n ?_
      refine AWp.seq ?_
      refine AWp.block ?_
      refine AWp.seq ?_
      refine W.reg [0, 1] rfl ?_
      refine S.sil 8 rfl rfl (fun _ hF => .move (lk 1 rfl rfl)) ?_
      refine S.sil 5 rfl rfl (fun _ hF => .assign (lk 0 rfl rfl)) ?_
      refine S.nil ?_
      refine thenQ_n ?_
      refine W.regD [0, 1, 2, 3, 4, 5, 6, 7, 8, 9] mixed ?_
      refine S.sil 9 rfl rfl (fun _ hF => .move (lk 0 rfl rfl)) ?_
      refine S.sil 10 rfl rfl (fun _ hF => .move (lk 1 rfl rfl)) ?_
      obtain ⟨k6, m6, h3⟩ := h3.bnd
      refine S.sil 11 rfl rfl (fun _ hF => .ixP arr23 (lk 8 rfl rfl) (lk 0 rfl rfl) m6) ?_
      refine S.qui 12 rfl rfl (fun _ => .loadP sz3 ag3 (lk 0 rfl rfl) rfl (.vc k6 .nil) (by first | rfl | omega) rfl rfl) ?_
      refine S.sil 13 rfl rfl (fun _ hF => .move (lk 4 rfl rfl)) ?_
      obtain ⟨k7, m7, h3⟩ := h3.bnd
      refine S.sil 14 rfl rfl (fun _ hF => .ixC arr23 (lk 10 rfl rfl) (lk 0 rfl rfl) m7) ?_
      refine S.sil 15 rfl rfl (fun _ hF => .loadC sz3 ag3 (lk 0 rfl rfl) rfl rfl) ?_
      refine S.sil 16 rfl rfl (fun _ hF => .bmax (lk 3 rfl rfl) (lk 0 rfl rfl)) ?_
      obtain ⟨k8, m8, h3⟩ := h3.bnd
      refine S.sil 17 rfl rfl (fun _ hF => .ixP arr23 (lk 14 rfl rfl) (lk 7 rfl rfl) m8) ?_
      obtain ⟨v9, ev9, h3⟩ := h3.nam
      refine S.effN rfl rfl (.storeP sz3 (lk 0 rfl rfl) (lk 1 rfl rfl) rfl (.refl _) rfl (.vc k8 .nil) (by first | rfl | omega) (.vc (max (s4.2.get k6) (a2.get k7)) k8 .nil) rfl rfl (congrArg (fun z => ([.cells (E_A16_i64 (default : Vector Int 16)), AObj.cells (E_A16_i64 z)] : List AObj)) ev9.symm)) trivial ?_
      refine S.nilD (by kernel_rfl) ?_
      refine blockQ_n ?_
      refine thenQ_n ?_
      refine W.reg [0, 1] rfl ?_
      refine S.sil 18 rfl rfl (fun _ hF => .add (lk 12 rfl rfl) cI) ?_
      refine S.sil 6 rfl rfl (fun _ hF => .move (lk 0 rfl rfl)) ?_
      refine S.nil ?_
      refine thenQ_n ?_
      exact ⟨_, h3.ret, (Wk.selS [0, 1] (by decide) rfl (SelE.leaf (lk 0 rfl rfl) rfl (.refl _) (fun m => ((TyOk.int .i64).lt _ _)) (SelE.spec (lk 15 rfl rfl) rfl (.refl _) rfl rfl (SelE.leaf (lk 16 rfl rfl) rfl (.refl _) (fun m => (lt_cptr (ty_A16_i64.lt _ _))) (SelE.spec (lk 17 rfl rfl) rfl (.refl _) rfl rfl .nil)))) (.cons (lt_cells (ty_A16_i64.lt (default : Vector Int 16) _)) rfl (RSub.trans (.refl _) (.eq (ty_A16_i64.cl _ _).symm)) (.cons (lt_cells (ty_A16_i64.lt _ _)) rfl (RSub.trans (.refl _) (.eq (ty_A16_i64.cl _ _).symm)) .nil)))⟩
    · skip
      refine AWp.exit ?_
      refine thenQ_x ?_
      refine thenQ_x ?_
      refine blockQ_x ?_
      refine thenQ_n ?_
      exact ⟨_, h3.ret, (Wk.selS [0, 1] (by decide) rfl (SelE.spec (lk 2 rfl rfl) rfl (.refl _) rfl rfl (SelE.spec (lk 4 rfl rfl) rfl (.refl _) rfl rfl .nil)) (.cons (lt_cells (ty_A16_i64.lt (default : Vector Int 16) _)) rfl (RSub.trans (.refl _) (.eq (ty_A16_i64.cl _ _).symm)) (.cons (lt_cells (ty_A16_i64.lt _ _)) rfl (RSub.trans (.refl _) (.eq (ty_A16_i64.cl _ _).symm)) .nil)))⟩
  · skip
    refine thenQ_n ?_
    refine AWp.seq ?_
    refine W.reg [0, 1] rfl ?_
    refine S.qui 19 rfl rfl (fun _ => .loadP sz23 ag23 (lk 1 rfl rfl) rfl .nil (by first | rfl | omega) (ty_A16_i64.fl x5) rfl) ?_
    refine S.effN rfl rfl (.nf (H2 := [.cells (E_A16_i64 x5), .cells (E_A16_i64 x5)]) (.storeP sz23 (lk 1 rfl rfl) (lk 0 rfl rfl) rfl (.refl _) rfl .nil (by first | rfl | omega) .nil (ty_A16_i64.fl x5) (ty_A16_i64.fl (default : Vector Int 16)) rfl) rfl rfl) trivial ?_
    refine S.nil ?_
    refine thenQ_n ?_
    refine AWp.ret ?_
    refine endF_wk (Wk.freeze 0 rfl rfl (.cons (lk 1 rfl rfl) rfl (.ptr .nil (by first | rfl | omega)) .nil) (.refl _)) ?_
    obtain rfl := h.ret
    exact endF1 rfl (Wk.selS [] .nil rfl (SelE.leaf (lk 0 rfl rfl) rfl (.refl _) (fun m => (lt_cptr (ty_A16_i64.lt _ _))) .nil) .nil) (.cellC sz23 ag23 (lk 0 rfl rfl) (ty_A16_i64.fl _) rfl) rfl rfl
theorem C_rights_Join_1 {a1 : Vector Int 16} {b2 : TRights} {r : TRights} (h : rights_Join_1 a1 b2 = some r) : CallSpec Pg 148 [.ptr 0 [0] 0, E_A16_i64 a1] [.cells (E_TRights b2)] fun o H' => o = .ret (.tup []) ∧ H' = [.cells (E_TRights r)] := by
  refine CallSpec.of_bodyF 11 1 fn148 rfl rfl rfl (Nat.le_of_ble_eq_true rfl) ?_
  replace h := Ok.of h
  unfold rights_Join_1 at h
  refine AWp.seq ?_
  refine W.reg [0] rfl ?_
  refine S.eff 3 rfl rfl (.nf (v2 := .ptr 1 [] 0) (H2 := [.cells (E_TRights b2), .cells (E_A16_i64 a1)]) (.box (lk 1 rfl rfl) rfl) rfl rfl) trivial ?_
  refine S.nil ?_
  refine thenQ_n ?_
  refine AWp.wk (Wk.freeze 1 rfl rfl (.cons (lk 0 rfl rfl) rfl (.ptr .nil (by first | rfl | omega)) (.same (lk 1 rfl rfl) .nil)) (.refl _)) ?_
  refine W.regD [0, 1, 2, 3, 4, 5, 6, 7] mixed ?_
  refine S.sil 4 rfl rfl (fun _ hF => .move (lk 1 rfl rfl)) ?_
  refine S.sil 5 rfl rfl (fun _ hF => .move (lk 2 rfl rfl)) ?_
  refine S.sil 6 rfl rfl (fun _ hF => .nilCheck (lk 0 rfl rfl) rfl) ?_
  refine S.qui 7 rfl rfl (fun _ => .loadP sz23 ag23 (lk 0 rfl rfl) rfl (.st rfl flL_nil .nil) (by first | rfl | omega) (ty_A16_i64.fl b2.Given) rfl) ?_
  refine S.sil 8 rfl rfl (fun _ hF => .loadC sz23 ag23 (lk 4 rfl rfl) (ty_A16_i64.fl a1) rfl) ?_
  obtain ⟨r3, m3, h⟩ := h.bnd
  refine S.sil 9 rfl rfl (fun _ hF => .callQ ent149 cF (.c (lk 1 rfl rfl) (V.sub.refl _) (.c (lk 0 rfl rfl) (V.sub.refl _) .nil)) (C_vec_Join m3)) ?_
  refine S.sil 10 rfl rfl (fun _ hF => .nilCheck (lk 5 rfl rfl) rfl) ?_
  obtain ⟨v4, ev4, h⟩ := h.nam
  refine S.effN rfl rfl (.storeP sz23 (lk 0 rfl rfl) (lk 1 rfl rfl) rfl (.refl _) rfl (.st rfl flL_nil .nil) (by first | rfl | omega) (.st rfl .nil rfl) (ty_A16_i64.fl r3) (ty_A16_i64.fl b2.Given) (congrArg (fun z => ([AObj.cells (E_TRights z), .dead] : List AObj)) ev4.symm)) trivial ?_
  refine S.nilD (by kernel_rfl) ?_
  refine endF_n ?_
  obtain rfl := h.ret
  exact endFN rfl (Wk.selS [0] (by decide) rfl .nil (.cons (lt_cells (ty_TRights.lt _ _)) rfl (RSub.trans (.refl _) (.eq (ty_TRights.cl _ _).symm)) .nil)) .nil rfl rfl rfl
theorem C_rights_Join_1_2 {a1 : Vector Int 16} {b2 : TRights} {r : TRights} (h : rights_Join_1_2 a1 b2 = some r) : CallSpec Pg 148 [.ptr 0 [1] 16, E_A16_i64 a1] [.cells (E_TRights b2)] fun o H' => o = .ret (.tup []) ∧ H' = [.cells (E_TRights r)] := by
  refine CallSpec.of_bodyF 11 1 fn148 rfl rfl rfl (Nat.le_of_ble_eq_true rfl) ?_
  replace h := Ok.of h
  unfold rights_Join_1_2 at h
  refine AWp.seq ?_
  refine W.reg [0] rfl ?_
  refine S.eff 3 rfl rfl (.nf (v2 := .ptr 1 [] 0) (H2 := [.cells (E_TRights b2), .cells (E_A16_i64 a1)]) (.box (lk 1 rfl rfl) rfl) rfl rfl) trivial ?_
  refine S.nil ?_
  refine thenQ_n ?_
  refine AWp.wk (Wk.freeze 1 rfl rfl (.cons (lk 0 rfl rfl) rfl (.ptr .nil (by first | rfl | omega)) (.same (lk 1 rfl rfl) .nil)) (.refl _)) ?_
  refine W.regD [0, 1, 2, 3, 4, 5, 6, 7] mixed ?_
  refine S.sil 4 rfl rfl (fun _ hF => .move (lk 1 rfl rfl)) ?_
  refine S.sil 5 rfl rfl (fun _ hF => .move (lk 2 rfl rfl)) ?_
  refine S.sil 6 rfl rfl (fun _ hF => .nilCheck (lk 0 rfl rfl) rfl) ?_
  refine S.qui 7 rfl rfl (fun _ => .loadP sz23 ag23 (lk 0 rfl rfl) rfl (.st rfl (flL_c (ty_A16_i64.fl b2.Given) flL_nil) .nil) (by first | rfl | omega) (ty_A16_i64.fl b2.Used) rfl) ?_
  refine S.sil 8 rfl rfl (fun _ hF => .loadC sz23 ag23 (lk 4 rfl rfl) (ty_A16_i64.fl a1) rfl) ?_
  obtain ⟨r3, m3, h⟩ := h.bnd
  refine S.sil 9 rfl rfl (fun _ hF => .callQ ent149 cF (.c (lk 1 rfl rfl) (V.sub.refl _) (.c (lk 0 rfl rfl) (V.sub.refl _) .nil)) (C_vec_Join m3)) ?_
  refine S.sil 10 rfl rfl (fun _ hF => .nilCheck (lk 5 rfl rfl) rfl) ?_
  obtain ⟨v4, ev4, h⟩ := h.nam
  refine S.effN rfl rfl (.storeP sz23 (lk 0 rfl rfl) (lk 1 rfl rfl) rfl (.refl _) rfl (.st rfl (flL_c (ty_A16_i64.fl b2.Given) flL_nil) .nil) (by first | rfl | omega) (.st rfl .nil rfl) (ty_A16_i64.fl r3) (ty_A16_i64.fl b2.Used) (congrArg (fun z => ([AObj.cells (E_TRights z), .dead] : List AObj)) ev4.symm)) trivial ?_
  refine S.nilD (by kernel_rfl) ?_
  refine endF_n ?_
  obtain rfl := h.ret
  exact endFN rfl (Wk.selS [0] (by decide) rfl .nil (.cons (lt_cells (ty_TRights.lt _ _)) rfl (RSub.trans (.refl _) (.eq (ty_TRights.cl _ _).symm)) .nil)) .nil rfl rfl rfl
theorem C_rights_Join_1_3 {k1 : Fin 16} {a2 : Vector Int 16} {b3 : TRights} {r : TRights} (h : rights_Join_1_3 k1 a2 b3 = some r) : CallSpec Pg 148 [.ptr 0 [2, k1.val] (32 + k1.val * 16), E_A16_i64 a2] [.cells (E_TRights b3)] fun o H' => o = .ret (.tup []) ∧ H' = [.cells (E_TRights r)] := by
  refine CallSpec.of_bodyF 11 1 fn148 rfl rfl rfl (Nat.le_of_ble_eq_true rfl) ?_
  replace h := Ok.of h
  unfold rights_Join_1_3 at h
  refine AWp.seq ?_
  refine W.reg [0] rfl ?_
  refine S.eff 3 rfl rfl (.nf (v2 := .ptr 1 [] 0) (H2 := [.cells (E_TRights b3), .cells (E_A16_i64 a2)]) (.box (lk 1 rfl rfl) rfl) rfl rfl) trivial ?_
  refine S.nil ?_
  refine thenQ_n ?_
  refine AWp.wk (Wk.freeze 1 rfl rfl (.cons (lk 0 rfl rfl) rfl (.ptr .nil (by first | rfl | omega)) (.same (lk 1 rfl rfl) .nil)) (.refl _)) ?_
  refine W.regD [0, 1, 2, 3, 4, 5, 6, 7] mixed ?_
  refine S.sil 4 rfl rfl (fun _ hF => .move (lk 1 rfl rfl)) ?_
  refine S.sil 5 rfl rfl (fun _ hF => .move (lk 2 rfl rfl)) ?_
  refine S.sil 6 rfl rfl (fun _ hF => .nilCheck (lk 0 rfl rfl) rfl) ?_
  obtain ⟨v4, ev4, h⟩ := h.nam
  refine S.qui 7 rfl rfl (fun _ => .nv (.loadP sz23 ag23 (lk 0 rfl rfl) rfl (.st rfl (flL_c (ty_A16_i64.fl b3.Given) (flL_c (ty_A16_i64.fl b3.Used) flL_nil)) (.vc k1 .nil)) (by first | rfl | omega) (ty_A16_i64.fl (b3.Moved.get k1)) rfl) (congrArg E_A16_i64 ev4.symm)) ?_
  refine S.sil 8 rfl rfl (fun _ hF => .loadC sz23 ag23 (lk 4 rfl rfl) (ty_A16_i64.fl a2) rfl) ?_
  obtain ⟨r5, m5, h⟩ := h.bnd
  refine S.sil 9 rfl rfl (fun _ hF => .callQ ent149 cF (.c (lk 1 rfl rfl) (V.sub.refl _) (.c (lk 0 rfl rfl) (V.sub.refl _) .nil)) (C_vec_Join m5)) ?_
  refine S.sil 10 rfl rfl (fun _ hF => .nilCheck (lk 5 rfl rfl) rfl) ?_
  obtain ⟨v6, ev6, h⟩ := h.nam
  refine S.effN rfl rfl (.storeP sz23 (lk 0 rfl rfl) (lk 1 rfl rfl) rfl (.refl _) rfl (.st rfl (flL_c (ty_A16_i64.fl b3.Given) (flL_c (ty_A16_i64.fl b3.Used) flL_nil)) (.vc k1 .nil)) (by first | rfl | omega) (.st rfl (.vc r5 k1 .nil) rfl) (ty_A16_i64.fl r5) (ty_A16_i64.fl (b3.Moved.get k1)) (congrArg (fun z => ([AObj.cells (E_TRights z), .dead] : List AObj)) ev6.symm)) trivial ?_
  refine S.nilD (by kernel_rfl) ?_
  refine endF_n ?_
  obtain rfl := h.ret
  exact endFN rfl (Wk.selS [0] (by decide) rfl .nil (.cons (lt_cells (ty_TRights.lt _ _)) rfl (RSub.trans (.refl _) (.eq (ty_TRights.cl _ _).symm)) .nil)) .nil rfl rfl rfl
theorem C_rights_Join {a1 : TRights} {a2 : TRights} {r : TRights} (h : rights_Join a1 a2 = some r) : PureC Pg 106 [E_TRights a1, E_TRights a2] (E_TRights r) := by
  refine PureC.ofF (CallSpec.of_bodyF 31 0 fn106 rfl rfl rfl (Nat.le_of_ble_eq_true rfl) ?_) (ltL_c (ty_TRights.lt _ _) (ltL_c (ty_TRights.lt _ _) ltL_nil)) (ty_TRights.lt _ _)
  replace h := Ok.of h
  unfold rights_Join at h
  refine AWp.seq ?_
  refine W.reg [0, 1, 2] rfl ?_
  refine S.eff 2 rfl rfl (.nf (v2 := .ptr 0 [] 0) (H2 := [.cells (E_TRights a1)]) (.box (lk 0 rfl rfl) rfl) rfl rfl) trivial ?_
  refine S.eff 3 rfl rfl (.nf (v2 := .ptr 1 [] 0) (H2 := [.cells (E_TRights a1), .cells (E_TRights a2)]) (.box (lk 2 rfl rfl) rfl) rfl rfl) trivial ?_
  refine S.eff 4 rfl rfl (.nf (v2 := .ptr 2 [] 0) (H2 := [.cells (E_TRights a1), .cells (E_TRights a2), .cells (E_TRights (default : TRights))]) (.alloc zv26) rfl rfl) trivial ?_
  refine S.nil ?_
  refine thenQ_n ?_
  refine AWp.wk (Wk.freeze 1 rfl rfl (.same (lk 0 rfl rfl) (.cons (lk 1 rfl rfl) rfl (.ptr .nil (by first | rfl | omega)) (.same (lk 2 rfl rfl) .nil))) (.refl _)) ?_
  refine AWp.seq ?_
  refine W.reg [0] rfl ?_
  refine S.sil 5 rfl rfl (fun _ hF => .assign cF) ?_
  refine S.nil ?_
  refine thenQ_n ?_
  refine AWp.seq ?_
  refine W.reg [0, 1, 2, 3, 4] rfl ?_
  refine S.sil 7 rfl rfl (fun _ hF => .move (lk 0 rfl rfl)) ?_
  refine S.sil 8 rfl rfl (fun _ hF => .fieldAddr lay26 rfl rfl (lk 4 rfl rfl)) ?_
  refine S.sil 9 rfl rfl (fun _ hF => .fieldAddrC lay26 rfl rfl (lk 4 rfl rfl) rfl flL_nil) ?_
  refine S.sil 10 rfl rfl (fun _ hF => .loadC sz23 ag23 (lk 0 rfl rfl) (ty_A16_i64.fl a2.Given) rfl) ?_
  obtain ⟨r3, m3, h⟩ := h.bnd
  refine S.eff 11 rfl rfl (.nf (H2 := [.cells (E_TRights r3), .dead, .cells (E_TRights (default : TRights))]) (.callH ent148 (lk 3 rfl rfl) [0] (C_rights_Join_1 m3) (by decide) (.cons (lt_cells (ty_TRights.lt _ _)) rfl (RSub.trans (.refl _) (.eq (ty_TRights.cl _ _).symm)) .nil) (ltL_c rfl (ltL_c (ty_A16_i64.lt _ _) ltL_nil)) (.c (lk 2 rfl rfl) (subren rfl) (.c (lk 0 rfl rfl) (vsubr (V.sub.refl _) (ty_A16_i64.lt _ _)) .nil)) (ren_tup rfl) (mapc (ren_cells (ty_TRights.cl _ _)) rfl) rfl) rfl rfl) trivial ?_
  refine S.nil ?_
  refine thenQ_n ?_
  refine AWp.seq ?_
  refine W.reg [0, 1, 2, 3, 4] rfl ?_
  refine S.sil 12 rfl rfl (fun _ hF => .move (lk 5 rfl rfl)) ?_
  refine S.sil 13 rfl rfl (fun _ hF => .fieldAddr lay26 rfl rfl (lk 9 rfl rfl)) ?_
  refine S.sil 14 rfl rfl (fun _ hF => .fieldAddrC lay26 rfl rfl (lk 9 rfl rfl) rfl (flL_c (ty_A16_i64.fl a2.Given) flL_nil)) ?_
  refine S.sil 15 rfl rfl (fun _ hF => .loadC sz23 ag23 (lk 0 rfl rfl) (ty_A16_i64.fl a2.Used) rfl) ?_
  obtain ⟨r4, m4, h⟩ := h.bnd
  refine S.eff 16 rfl rfl (.nf (H2 := [.cells (E_TRights r4), .dead, .cells (E_TRights (default : TRights))]) (.callH ent148 (lk 3 rfl rfl) [0] (C_rights_Join_1_2 m4) (by decide) (.cons (lt_cells (ty_TRights.lt _ _)) rfl (RSub.trans (.refl _) (.eq (ty_TRights.cl _ _).symm)) .nil) (ltL_c rfl (ltL_c (ty_A16_i64.lt _ _) ltL_nil)) (.c (lk 2 rfl rfl) (subren rfl) (.c (lk 0 rfl rfl) (vsubr (V.sub.refl _) (ty_A16_i64.lt _ _)) .nil)) (ren_tup rfl) (mapc (ren_cells (ty_TRights.cl _ _)) rfl) rfl) rfl rfl) trivial ?_
  refine S.nil ?_
  refine thenQ_n ?_
  refine AWp.prune (.eq (lk 10 rfl rfl) rfl (.eq (lk 11 rfl rfl) rfl (.eq (lk 12 rfl rfl) rfl (.eq (lk 13 rfl rfl) rfl .nil)))) ?_
  refine AWp.seq ?_
  refine AWp.seq ?_
  refine W.reg [0] rfl ?_
  refine S.sil 17 rfl rfl (fun _ hF => .move cI) ?_
  refine S.nil ?_
  refine thenQ_n ?_
  refine AWp.cutX (fun x7 => ⟨[(4, .ptr 0 [] 0), (2, .ptr 1 [] 0)], [.cells (E_TRights (default : TRights)), .cells (E_TRights x7)]⟩) nc_then h (fun q5 hq5 => ?_) (fun x7 h => ?_)
  · refine AWp.block ?_
    refine AWp.loopT (fun s6 => ⟨[(17, (V.int .i64) s6.1), (5, .fn 148 [] []), (4, .ptr 0 [] 0), (3, .cptr (E_TRights a2)), (2, .ptr 1 [] 0)], [.cells (E_TRights (default : TRights)), .cells (E_TRights s6.2)]⟩) hq5 (Wk.selS [2, 0] (by decide) rfl (SelE.leaf (lk 0 rfl rfl) rfl (.refl _) (fun m => ((TyOk.int .i64).lt _ _)) (SelE.leaf (lk 1 rfl rfl) rfl (.refl _) (fun m => (lt_fn ltL_nil ltL_nil)) (SelE.spec (lk 2 rfl rfl) rfl (.refl _) rfl rfl (SelE.leaf (lk 3 rfl rfl) rfl (.refl _) (fun m => (lt_cptr (ty_TRights.lt _ _))) (SelE.spec (lk 4 rfl rfl) rfl (.refl _) rfl rfl .nil))))) (.cons (lt_cells (ty_TRights.lt (default : TRights) _)) rfl (RSub.trans (.refl _) (.eq (ty_TRights.cl _ _).symm)) (.cons (lt_cells (ty_TRights.lt _ _)) rfl (RSub.trans (.refl _) (.eq (ty_TRights.cl _ _).symm)) .nil))) (fun _ s6 h5 => ?_)
    rw [rights_Join_L1] at h5
    refine AWp.seq ?_
    refine W.reg [0] rfl ?_
    refine S.sil 18 rfl rfl (fun _ hF => .lss (lk 0 rfl rfl) cI) ?_
    refine S.nil ?_
    refine thenQ_n ?_
    refine AWp.seq ?_
    refine AWp.condM (lk 0 rfl rfl) h5 (fun c1 h5 => ?_) (fun c1 h5 => ?_)
    · skip
      refine AWp.skip ?_
      refine thenQ_n ?_
      refine AWp.seq ?_
      refine AWp.block ?_
      refine AWp.seq ?_
      refine W.reg [0, 1] rfl ?_
      refine S.sil 19 rfl rfl (fun _ hF => .move (lk 1 rfl rfl)) ?_
      refine S.sil 6 rfl rfl (fun _ hF => .assign (lk 0 rfl rfl)) ?_
      refine S.nil ?_
      refine thenQ_n ?_
      refine W.regD [0, 1, 2, 3, 4, 5, 6, 7, 8] mixed ?_
      refine S.sil 20 rfl rfl (fun _ hF => .move (lk 4 rfl rfl)) ?_
      refine S.sil 21 rfl rfl (fun _ hF => .move (lk 1 rfl rfl)) ?_
      refine S.sil 22 rfl rfl (fun _ hF => .fieldAddr lay26 rfl rfl (lk 9 rfl rfl)) ?_
      obtain ⟨k8, m8, h5⟩ := h5.bnd
      refine S.sil 23 rfl rfl (fun _ hF => .ixP arr24 (lk 0 rfl rfl) (lk 1 rfl rfl) m8) ?_
      refine S.sil 24 rfl rfl (fun _ hF => .move (lk 4 rfl rfl)) ?_
      refine S.sil 25 rfl rfl (fun _ hF => .fieldAddrC lay26 rfl rfl (lk 11 rfl rfl) rfl (flL_c (ty_A16_i64.fl a2.Given) (flL_c (ty_A16_i64.fl a2.Used) flL_nil))) ?_
      obtain ⟨k9, m9, h5⟩ := h5.bnd
      refine S.sil 26 rfl rfl (fun _ hF => .ixC arr24 (lk 0 rfl rfl) (lk 1 rfl rfl) m9) ?_
      obtain ⟨v10, ev10, h5⟩ := h5.nam
      refine S.sil 27 rfl rfl (fun _ hF => .nv (.loadC sz23 ag23 (lk 0 rfl rfl) (ty_A16_i64.fl (a2.Moved.get k9)) rfl) (congrArg E_A16_i64 ev10.symm)) ?_
      obtain ⟨r11, m11, h5⟩ := h5.bnd
      refine S.eff 28 rfl rfl (.callH ent148 (lk 7 rfl rfl) [1] (C_rights_Join_1_3 m11) (by decide) (.cons (lt_cells (ty_TRights.lt _ _)) rfl (RSub.trans (.refl _) (.eq (ty_TRights.cl _ _).symm)) .nil) (ltL_c rfl (ltL_c (ty_A16_i64.lt _ _) ltL_nil)) (.c (lk 4 rfl rfl) (subren rfl) (.c (lk 0 rfl rfl) (vsubr (V.sub.refl _) (ty_A16_i64.lt _ _)) .nil)) (ren_tup rfl) (mapc (ren_cells (ty_TRights.cl _ _)) rfl) rfl) trivial ?_
      refine S.nilD (by kernel_rfl) ?_
      refine blockQ_n ?_
      refine thenQ_n ?_
      refine W.reg [0, 1] rfl ?_
      refine S.sil 29 rfl rfl (fun _ hF => .add (lk 12 rfl rfl) cI) ?_
      refine S.sil 17 rfl rfl (fun _ hF => .move (lk 0 rfl rfl)) ?_
      refine S.nil ?_
      refine thenQ_n ?_
      exact ⟨_, h5.ret, (Wk.selS [0, 1] (by decide) rfl (SelE.leaf (lk 0 rfl rfl) rfl (.refl _) (fun m => ((TyOk.int .i64).lt _ _)) (SelE.leaf (lk 15 rfl rfl) rfl (.refl _) (fun m => (lt_fn ltL_nil ltL_nil)) (SelE.spec (lk 16 rfl rfl) rfl (.refl _) rfl rfl (SelE.leaf (lk 17 rfl rfl) rfl (.refl _) (fun m => (lt_cptr (ty_TRights.lt _ _))) (SelE.spec (lk 18 rfl rfl) rfl (.refl _) rfl rfl .nil))))) (.cons (lt_cells (ty_TRights.lt (default : TRights) _)) rfl (RSub.trans (.refl _) (.eq (ty_TRights.cl _ _).symm)) (.cons (lt_cells (ty_TRights.lt _ _)) rfl (RSub.trans (.refl _) (.eq (ty_TRights.cl _ _).symm)) .nil)))⟩
    · skip
      refine AWp.exit ?_
      refine thenQ_x ?_
      refine thenQ_x ?_
      refine blockQ_x ?_
      refine thenQ_n ?_
      exact ⟨_, h5.ret, (Wk.selS [0, 1] (by decide) rfl (SelE.spec (lk 3 rfl rfl) rfl (.refl _) rfl rfl (SelE.spec (lk 5 rfl rfl) rfl (.refl _) rfl rfl .nil)) (.cons (lt_cells (ty_TRights.lt (default : TRights) _)) rfl (RSub.trans (.refl _) (.eq (ty_TRights.cl _ _).symm)) (.cons (lt_cells (ty_TRights.lt _ _)) rfl (RSub.trans (.refl _) (.eq (ty_TRights.cl _ _).symm)) .nil)))⟩
  · skip
    refine thenQ_n ?_
    refine AWp.seq ?_
    refine W.reg [0, 1] rfl ?_
    refine S.qui 30 rfl rfl (fun _ => .loadP sz26 ag26 (lk 1 rfl rfl) rfl .nil (by first | rfl | omega) (ty_TRights.fl x7) rfl) ?_
    refine S.effN rfl rfl (.nf (H2 := [.cells (E_TRights x7), .cells (E_TRights x7)]) (.storeP sz26 (lk 1 rfl rfl) (lk 0 rfl rfl) rfl (.refl _) rfl .nil (by first | rfl | omega) .nil (ty_TRights.fl x7) (ty_TRights.fl (default : TRights)) rfl) rfl rfl) trivial ?_
    refine S.nil ?_
    refine thenQ_n ?_
    refine AWp.ret ?_
    refine endF_wk (Wk.freeze 0 rfl rfl (.cons (lk 1 rfl rfl) rfl (.ptr .nil (by first | rfl | omega)) .nil) (.refl _)) ?_
    obtain rfl := h.ret
    exact endF1 rfl (Wk.selS [] .nil rfl (SelE.leaf (lk 0 rfl rfl) rfl (.refl _) (fun m => (lt_cptr (ty_TRights.lt _ _))) .nil) .nil) (.cellC sz26 ag26 (lk 0 rfl rfl) (ty_TRights.fl _) rfl) rfl rfl
theorem C_counter_Join {a1 : TCounter} {a2 : TCounter} {r : TCounter × Int} (h : counter_Join a1 a2 = some r) : PureC Pg 56 [E_TCounter a1, E_TCounter a2] (.tup [E_TCounter r.1, (V.int .i64) r.2]) := by
  refine PureC.ofF (CallSpec.of_bodyF 39 0 fn56 rfl rfl rfl (Nat.le_of_ble_eq_true rfl) ?_) (ltL_c (ty_TCounter.lt _ _) (ltL_c (ty_TCounter.lt _ _) ltL_nil)) (lt_tup (ltL_c (ty_TCounter.lt _ _) (ltL_c ((TyOk.int .i64).lt _ _) ltL_nil)))
  replace h := Ok.of h
  unfold counter_Join at h
  refine AWp.seq ?_
  refine W.reg [0, 1, 2, 3] rfl ?_
  refine S.eff 2 rfl rfl (.nf (v2 := .ptr 0 [] 0) (H2 := [.cells (E_TCounter a1)]) (.box (lk 0 rfl rfl) rfl) rfl rfl) trivial ?_
  refine S.eff 3 rfl rfl (.nf (v2 := .ptr 1 [] 0) (H2 := [.cells (E_TCounter a1), .cells (E_TCounter a2)]) (.box (lk 2 rfl rfl) rfl) rfl rfl) trivial ?_
  refine S.eff 4 rfl rfl (.nf (v2 := .ptr 2 [] 0) (H2 := [.cells (E_TCounter a1), .cells (E_TCounter a2), .cells (E_TCounter (default : TCounter))]) (.alloc zv28) rfl rfl) trivial ?_
  refine S.sil 5 rfl rfl (fun _ hF => .assign cI) ?_
  refine S.nil ?_
  refine thenQ_n ?_
  refine AWp.wk (Wk.freeze 1 rfl rfl (.same (lk 0 rfl rfl) (.same (lk 1 rfl rfl) (.cons (lk 2 rfl rfl) rfl (.ptr .nil (by first | rfl | omega)) (.same (lk 3 rfl rfl) .nil)))) (.refl _)) ?_
  refine AWp.seq ?_
  refine AWp.seq ?_
  refine W.reg [0, 1, 2, 3, 4, 5, 6, 7, 8, 9, 10, 11, 12, 13, 14, 15, 16, 17, 18] rfl ?_
  refine S.sil 6 rfl rfl (fun _ hF => .fieldAddr lay28 rfl rfl (lk 3 rfl rfl)) ?_
  refine S.qui 7 rfl rfl (fun _ => .loadP sz3 ag3 (lk 0 rfl rfl) rfl (.st rfl flL_nil .nil) (by first | rfl | omega) rfl rfl) ?_
  refine S.sil 8 rfl rfl (fun _ hF => .fieldAddrC lay28 rfl rfl (lk 4 rfl rfl) rfl flL_nil) ?_
  refine S.sil 9 rfl rfl (fun _ hF => .loadC sz3 ag3 (lk 0 rfl rfl) rfl rfl) ?_
  refine S.sil 10 rfl rfl (fun _ hF => .neq (lk 2 rfl rfl) (lk 0 rfl rfl)) ?_
  refine S.sil 11 rfl rfl (fun _ hF => .move (lk 0 rfl rfl)) ?_
  refine S.gsil 12 5 11 false rfl rfl rfl (lk 0 rfl rfl) (fun hB _ hF => .fieldAddr lay28 rfl rfl (lk 9 rfl rfl)) ?_
  refine S.gqui 13 5 11 false rfl rfl rfl (lk 1 rfl rfl) (fun hB _ => .loadP sz3 ag3 (ifT hB (lk 0 rfl rfl)) rfl (.st rfl (flL_c (show flen _ = 1 from rfl) flL_nil) .nil) (by first | rfl | omega) rfl rfl) ?_
  refine S.gsil 14 5 11 false rfl rfl rfl (lk 2 rfl rfl) (fun hB _ hF => .fieldAddrC lay28 rfl rfl (lk 10 rfl rfl) rfl (flL_c (show flen _ = 1 from rfl) flL_nil)) ?_
  refine S.gsil 15 5 11 false rfl rfl rfl (lk 3 rfl rfl) (fun hB _ hF => .loadC sz3 ag3 (ifT hB (lk 0 rfl rfl)) rfl rfl) ?_
  refine S.gsil 16 5 11 false rfl rfl rfl (lk 4 rfl rfl) (fun hB _ hF => .neq (ifT hB (lk 2 rfl rfl)) (ifT hB (lk 0 rfl rfl))) ?_
  refine S.sil 17 rfl rfl (fun _ hF => .pickOr (lk 5 rfl rfl) cB (fun h => ifT h (lk 0 rfl rfl))) ?_
  refine S.sil 18 rfl rfl (fun _ hF => .move (lk 0 rfl rfl)) ?_
  refine S.gsil 19 12 18 false rfl rfl rfl (lk 0 rfl rfl) (fun hB _ hF => .fieldAddr lay28 rfl rfl (lk 16 rfl rfl)) ?_
  refine S.gqui 20 12 18 false rfl rfl rfl (lk 1 rfl rfl) (fun hB _ => .loadP sz3 ag3 (ifT hB (lk 0 rfl rfl)) rfl (.st rfl (flL_c (show flen _ = 1 from rfl) (flL_c (show flen _ = 1 from rfl) flL_nil)) .nil) (by first | rfl | omega) rfl rfl) ?_
  refine S.gsil 21 12 18 false rfl rfl rfl (lk 2 rfl rfl) (fun hB _ hF => .fieldAddrC lay28 rfl rfl (lk 17 rfl rfl) rfl (flL_c (show flen _ = 1 from rfl) (flL_c (show flen _ = 1 from rfl) flL_nil))) ?_
  refine S.gsil 22 12 18 false rfl rfl rfl (lk 3 rfl rfl) (fun hB _ hF => .loadC sz3 ag3 (ifT hB (lk 0 rfl rfl)) rfl rfl) ?_
  refine S.gsil 23 12 18 false rfl rfl rfl (lk 4 rfl rfl) (fun hB _ hF => .neq (ifT hB (lk 2 rfl rfl)) (ifT hB (lk 0 rfl rfl))) ?_
  obtain ⟨v3, ev3, h⟩ := h.nam
  refine S.sil 24 rfl rfl (fun _ hF => .nv (.pickOr (lk 5 rfl rfl) cB (fun h => ifT h (lk 0 rfl rfl))) (congrArg V.bool ev3.symm)) ?_
  refine S.nil ?_
  refine thenQ_n ?_
  refine AWp.prune (.eq (lk 0 rfl rfl) rfl (.eq (lk 19 rfl rfl) rfl (.eq (lk 20 rfl rfl) rfl (.eq (lk 21 rfl rfl) rfl (.eq (lk 22 rfl rfl) rfl .nil))))) ?_
  refine AWp.condM (lk 0 rfl rfl) h (fun c1 h => ?_) (fun c1 h => ?_)
  · skip
    refine AWp.seq ?_
    refine W.reg [0, 1, 2] rfl ?_
    obtain ⟨v4, ev4, h⟩ := h.nam
    refine S.sil 25 rfl rfl (fun _ hF => .nv (.nv (v2 := E_TCounter (⟨0, 0, 0, (default : TRights), (default : TRights)⟩ : TCounter)) (.buildStW lay28 zv28 rfl .nil) rfl) (congrArg E_TCounter ev4.symm)) ?_
    refine S.effN rfl rfl (.nf (H2 := [.cells (E_TCounter a1), .dead, .cells (E_TCounter v4)]) (.storeP sz28 (lk 3 rfl rfl) (lk 0 rfl rfl) rfl (.refl _) rfl .nil (by first | rfl | omega) .nil (ty_TCounter.fl v4) (ty_TCounter.fl (default : TCounter)) rfl) rfl rfl) trivial ?_
    refine S.sil 5 rfl rfl (fun _ hF => .assign cI) ?_
    refine S.nil ?_
    refine thenQ_n ?_
    refine AWp.ret ?_
    refine thenQ_r ?_
    refine endF_wk (Wk.freeze 2 rfl rfl (.same (lk 0 rfl rfl) (.same (lk 0 rfl rfl) (.cons (lk 4 rfl rfl) rfl (.ptr .nil (by first | rfl | omega)) .nil))) (.refl _)) ?_
    obtain rfl := h.ret
    exact endFN rfl (Wk.selS [] .nil rfl (SelE.leaf (lk 2 rfl rfl) rfl (.refl _) (fun m => (lt_cptr (ty_TCounter.lt _ _))) (SelE.leaf (lk 0 rfl rfl) rfl (.refl _) (fun m => ((TyOk.int .i64).lt _ _)) .nil)) .nil) (.cons (.cellC sz28 ag28 (lk 0 rfl rfl) (ty_TCounter.fl _) rfl) (.cons (.tmp (lk 1 rfl rfl) rfl) .nil)) rfl rfl rfl
  · skip
    refine AWp.skip ?_
    refine thenQ_n ?_
    refine AWp.seq ?_
    refine W.regD [0, 1, 2, 3, 4, 5, 6, 7, 8, 9, 10, 11, 12, 13] mixed ?_
    refine S.sil 26 rfl rfl (fun _ hF => .fieldAddr lay28 rfl rfl (lk 4 rfl rfl)) ?_
    refine S.qui 27 rfl rfl (fun _ => .loadP sz26 ag26 (lk 0 rfl rfl) rfl (.st rfl (flL_c (show flen _ = 1 from rfl) (flL_c (show flen _ = 1 from rfl) (flL_c (show flen _ = 1 from rfl) flL_nil))) .nil) (by first | rfl | omega) (ty_TRights.fl a1.Down) rfl) ?_
    refine S.sil 28 rfl rfl (fun _ hF => .fieldAddrC lay28 rfl rfl (lk 5 rfl rfl) rfl (flL_c (show flen _ = 1 from rfl) (flL_c (show flen _ = 1 from rfl) (flL_c (show flen _ = 1 from rfl) flL_nil)))) ?_
    refine S.sil 29 rfl rfl (fun _ hF => .loadC sz26 ag26 (lk 0 rfl rfl) (ty_TRights.fl a2.Down) rfl) ?_
    obtain ⟨r5, m5, h⟩ := h.bnd
    refine S.sil 30 rfl rfl (fun _ hF => .callQ ent106 cF (.c (lk 2 rfl rfl) (V.sub.refl _) (.c (lk 0 rfl rfl) (V.sub.refl _) .nil)) (C_rights_Join m5)) ?_
    refine S.sil 31 rfl rfl (fun _ hF => .fieldAddr lay28 rfl rfl (lk 9 rfl rfl)) ?_
    refine S.qui 32 rfl rfl (fun _ => .loadP sz26 ag26 (lk 0 rfl rfl) rfl (.st rfl (flL_c (show flen _ = 1 from rfl) (flL_c (show flen _ = 1 from rfl) (flL_c (show flen _ = 1 from rfl) (flL_c (ty_TRights.fl a1.Down) flL_nil)))) .nil) (by first | rfl | omega) (ty_TRights.fl a1.Up) rfl) ?_
    refine S.sil 33 rfl rfl (fun _ hF => .fieldAddrC lay28 rfl rfl (lk 10 rfl rfl) rfl (flL_c (show flen _ = 1 from rfl) (flL_c (show flen _ = 1 from rfl) (flL_c (show flen _ = 1 from rfl) (flL_c (ty_TRights.fl a2.Down) flL_nil))))) ?_
    refine S.sil 34 rfl rfl (fun _ hF => .loadC sz26 ag26 (lk 0 rfl rfl) (ty_TRights.fl a2.Up) rfl) ?_
    obtain ⟨r6, m6, h⟩ := h.bnd
    refine S.sil 35 rfl rfl (fun _ hF => .callQ ent106 cF (.c (lk 2 rfl rfl) (V.sub.refl _) (.c (lk 0 rfl rfl) (V.sub.refl _) .nil)) (C_rights_Join m6)) ?_
    refine S.sil 36 rfl rfl (fun _ hF => .fieldAddr lay28 rfl rfl (lk 14 rfl rfl)) ?_
    obtain ⟨v7, ev7, h⟩ := h.nam
    refine S.effN rfl rfl (.storeP sz26 (lk 0 rfl rfl) (lk 6 rfl rfl) rfl (.refl _) rfl (.st rfl (flL_c (show flen _ = 1 from rfl) (flL_c (show flen _ = 1 from rfl) (flL_c (show flen _ = 1 from rfl) flL_nil))) .nil) (by first | rfl | omega) (.st rfl .nil rfl) (ty_TRights.fl r5) (ty_TRights.fl a1.Down) (congrArg (fun z => ([AObj.cells (E_TCounter z), .dead, .cells (E_TCounter (default : TCounter))] : List AObj)) ev7.symm)) trivial ?_
    refine S.sil 37 rfl rfl (fun _ hF => .fieldAddr lay28 rfl rfl (lk 15 rfl rfl)) ?_
    obtain ⟨v8, ev8, h⟩ := h.nam
    refine S.effN rfl rfl (.storeP sz26 (lk 0 rfl rfl) (lk 2 rfl rfl) rfl (.refl _) rfl (.st rfl (flL_c (show flen _ = 1 from rfl) (flL_c (show flen _ = 1 from rfl) (flL_c (show flen _ = 1 from rfl) (flL_c (ty_TRights.fl v7.Down) flL_nil)))) .nil) (by first | rfl | omega) (.st rfl .nil rfl) (ty_TRights.fl r6) (ty_TRights.fl v7.Up) (congrArg (fun z => ([AObj.cells (E_TCounter z), .dead, .cells (E_TCounter (default : TCounter))] : List AObj)) ev8.symm)) trivial ?_
    refine S.nilD (by kernel_rfl) ?_
    refine thenQ_n ?_
    refine AWp.prune (.eq (lk 13 rfl rfl) rfl (.eq (lk 14 rfl rfl) rfl (.eq (lk 16 rfl rfl) rfl .nil))) ?_
    refine AWp.seq ?_
    refine W.reg [0, 1, 2] rfl ?_
    refine S.qui 38 rfl rfl (fun _ => .loadP sz28 ag28 (lk 2 rfl rfl) rfl .nil (by first | rfl | omega) (ty_TCounter.fl v8) rfl) ?_
    refine S.effN rfl rfl (.nf (H2 := [.cells (E_TCounter v8), .dead, .cells (E_TCounter v8)]) (.storeP sz28 (lk 2 rfl rfl) (lk 0 rfl rfl) rfl (.refl _) rfl .nil (by first | rfl | omega) .nil (ty_TCounter.fl v8) (ty_TCounter.fl (default : TCounter)) rfl) rfl rfl) trivial ?_
    refine S.sil 5 rfl rfl (fun _ hF => .assign cI) ?_
    refine S.nil ?_
    refine thenQ_n ?_
    refine AWp.ret ?_
    refine endF_wk (Wk.freeze 2 rfl rfl (.same (lk 0 rfl rfl) (.same (lk 0 rfl rfl) (.cons (lk 3 rfl rfl) rfl (.ptr .nil (by first | rfl | omega)) .nil))) (.refl _)) ?_
    obtain rfl := h.ret
    exact endFN rfl (Wk.selS [] .nil rfl (SelE.leaf (lk 2 rfl rfl) rfl (.refl _) (fun m => (lt_cptr (ty_TCounter.lt _ _))) (SelE.leaf (lk 0 rfl rfl) rfl (.refl _) (fun m => ((TyOk.int .i64).lt _ _)) .nil)) .nil) (.cons (.cellC sz28 ag28 (lk 0 rfl rfl) (ty_TCounter.fl _) rfl) (.cons (.tmp (lk 1 rfl rfl) rfl) .nil)) rfl rfl rfl
theorem C_hold_Join {a1 : List THold} {a2 : List THold} {r : (List THold) × Int} (h : hold_Join a1 a2 = some r) : PureC Pg 57 [.sl 5 .no (List.map E_THold a1), .sl 5 .no (List.map E_THold a2)] (.tup [E_S_THold r.1, (V.int .i64) r.2]) := by
  refine PureC.ofF (CallSpec.of_bodyF 101 0 fn57 rfl rfl rfl (Nat.le_of_ble_eq_true rfl) ?_) (ltL_c (lt_sl rfl (ty_THold.ltm _ _)) (ltL_c (lt_sl rfl (ty_THold.ltm _ _)) ltL_nil)) (lt_tup (ltL_c (ty_S_THold.lt _ _) (ltL_c ((TyOk.int .i64).lt _ _) ltL_nil)))
  replace h := Ok.of h
  unfold hold_Join at h
  refine AWp.seq ?_
  refine W.reg [0, 1] rfl ?_
  refine S.sil 4 rfl rfl (fun _ hF => .assign cNs) ?_
  refine S.sil 5 rfl rfl (fun _ hF => .assign cI) ?_
  refine S.nil ?_
  refine thenQ_n ?_
  refine AWp.seq ?_
  refine AWp.seq ?_
  refine W.reg [0, 1, 2, 3, 4, 5, 6, 7] rfl ?_
  refine S.sil 14 rfl rfl (fun _ hF => .move (lk 2 rfl rfl)) ?_
  obtain ⟨r3, m3, h⟩ := h.bnd
  refine S.sil 15 rfl rfl (fun _ hF => .callQ ent76 cF (.c (lk 0 rfl rfl) (V.sub.refl _) .nil) (C_hold_Rights m3)) ?_
  refine S.sil 16 rfl rfl (fun _ hF => .not (lk 0 rfl rfl)) ?_
  refine S.sil 17 rfl rfl (fun _ hF => .move (lk 0 rfl rfl)) ?_
  refine S.gsil 18 3 17 false rfl rfl rfl (lk 0 rfl rfl) (fun hB _ hF => .move (lk 7 rfl rfl)) ?_
  obtain ⟨r4, m4, h⟩ := h.bnd
  refine S.gsil 19 3 17 false rfl rfl rfl (lk 1 rfl rfl) (fun hB _ hF => .callQ ent76 cF (.c (ifT hB (lk 0 rfl rfl)) (V.sub.refl _) .nil) (C_hold_Rights (gd_get m4 hB))) ?_
  refine S.gsil 20 3 17 false rfl rfl rfl (lk 2 rfl rfl) (fun hB _ hF => .not (ifT hB (lk 0 rfl rfl))) ?_
  refine S.sil 21 rfl rfl (fun _ hF => .pickOr (lk 3 rfl rfl) cB (fun h => ifT h (lk 0 rfl rfl))) ?_
  refine S.nil ?_
  refine thenQ_n ?_
  refine AWp.condM (lk 0 rfl rfl) h (fun c1 h => ?_) (fun c1 h => ?_)
  · skip
    refine AWp.seq ?_
    refine W.reg [0, 1] rfl ?_
    refine S.sil 4 rfl rfl (fun _ hF => .assign cNs) ?_
    refine S.sil 5 rfl rfl (fun _ hF => .assign cI) ?_
    refine S.nil ?_
    refine thenQ_n ?_
    refine AWp.prune (.eq (lk 0 rfl rfl) rfl (.eq (lk 1 rfl rfl) rfl (.eq (lk 12 rfl rfl) rfl (.eq (lk 13 rfl rfl) rfl .nil)))) ?_
    refine AWp.ret ?_
    refine thenQ_r ?_
    obtain rfl := h.ret
    exact endFN rfl (Wk.selS [] .nil rfl (SelE.leaf (lk 1 rfl rfl) rfl (.nils_no _) (fun m => (ty_S_THold.lt ([] : List THold) _)) (SelE.leaf (lk 0 rfl rfl) rfl (.refl _) (fun m => ((TyOk.int .i64).lt _ _)) .nil)) .nil) (.cons (.tmp (lk 0 rfl rfl) rfl) (.cons (.tmp (lk 1 rfl rfl) rfl) .nil)) rfl rfl rfl
  · skip
    refine AWp.skip ?_
    refine thenQ_n ?_
    refine AWp.seq ?_
    refine W.reg [0, 1] rfl ?_
    refine S.eff 22 rfl rfl (.nf (v2 := .map 0) (H2 := [.map (encE E_A2_i64 (V.int .i64) (AMap.empty : AMap (Vector Int 2) Int okInts).es)]) (.makeMap) rfl rfl) trivial ?_
    refine S.sil 6 rfl rfl (fun _ hF => .assign (lk 0 rfl rfl)) ?_
    refine S.nil ?_
    refine thenQ_n ?_
    refine AWp.seq ?_
    refine W.reg [0, 1, 2] rfl ?_
    refine S.sil 23 rfl rfl (fun _ hF => .move (lk 12 rfl rfl)) ?_
    obtain ⟨l5, m5, h⟩ := h.bnd
    refine S.eff 24 rfl rfl (.nf (v2 := .slo 5 1 [] 0 0 l5.length 1) (H2 := [.map (encE E_A2_i64 (V.int .i64) (AMap.empty : AMap (Vector Int 2) Int okInts).es), .buf 5 (List.map E_THold l5)]) (.callN ent38 cF [] (C_cloneO_38 m5) .nil .nil (ltL_c (ty_S_THold.lt _ _) ltL_nil) (.c (lk 0 rfl rfl) (vsubr (V.sub.refl _) (ty_S_THold.lt _ 0)) .nil) rfl (mapc (ren_buf ty_THold _) rfl) rfl) rfl rfl) trivial ?_
    refine S.sil 7 rfl rfl (fun _ hF => .assign (lk 0 rfl rfl)) ?_
    refine S.nil ?_
    refine thenQ_n ?_
    refine AWp.prune (.eq (lk 0 rfl rfl) rfl (.eq (lk 3 rfl rfl) rfl (.eq (lk 13 rfl rfl) rfl (.eq (lk 14 rfl rfl) rfl (.eq (lk 15 rfl rfl) rfl (.eq (lk 16 rfl rfl) rfl .nil)))))) ?_
    refine AWp.seq ?_
    refine AWp.seq ?_
    refine W.reg [0, 1, 2] rfl ?_
    refine S.sil 25 rfl rfl (fun _ hF => .move (lk 4 rfl rfl)) ?_
    refine S.sil 26 rfl rfl (fun _ hF => .lenT sli31 (lk 0 rfl rfl) (vsub rfl (.refl _))) ?_
    refine S.sil 27 rfl rfl (fun _ hF => .move cI) ?_
    refine S.nil ?_
    refine thenQ_n ?_
    refine AWp.cutX (fun x8 => ⟨[(7, .slo 5 0 [] 0 0 l5.length 1), (6, .map 1), (5, (V.int .i64) 0), (4, .nils), (1, .sl 5 .no (List.map E_THold a2))], [.buf 5 (List.map E_THold l5), .map (encE E_A2_i64 (V.int .i64) x8.es)]⟩) nc_then h (fun q6 hq6 => ?_) (fun x8 h => ?_)
    · refine AWp.block ?_
      refine AWp.loopT (fun s7 => ⟨[(27, (V.int .i64) s7.1), (26, (V.int .i64) (a1.length : Int)), (25, .sl 5 .no (List.map E_THold a1)), (7, .slo 5 0 [] 0 0 l5.length 1), (6, .map 1), (5, (V.int .i64) 0), (4, .nils), (1, .sl 5 .no (List.map E_THold a2))], [.buf 5 (List.map E_THold l5), .map (encE E_A2_i64 (V.int .i64) s7.2.es)]⟩) hq6 (Wk.selS [1, 0] (by decide) rfl (SelE.leaf (lk 0 rfl rfl) rfl (.refl _) (fun m => ((TyOk.int .i64).lt _ _)) (SelE.leaf (lk 1 rfl rfl) rfl (.refl _) (fun m => ((TyOk.int .i64).lt _ _)) (SelE.leaf (lk 2 rfl rfl) rfl (.refl _) (fun m => (lt_sl rfl (ty_THold.ltm _ _))) (SelE.spec (lk 3 rfl rfl) rfl (.slo (by first | rfl | simp)) rfl rfl (SelE.spec (lk 4 rfl rfl) rfl (.refl _) rfl rfl (SelE.leaf (lk 5 rfl rfl) rfl (.refl _) (fun m => ((TyOk.int .i64).lt _ _)) (SelE.leaf (lk 6 rfl rfl) rfl (.refl _) (fun m => rfl) (SelE.leaf (lk 8 rfl rfl) rfl (.refl _) (fun m => (lt_sl rfl (ty_THold.ltm _ _))) .nil)))))))) (.cons (lt_buf ty_THold) rfl ⟨rfl, RSubL.leafr ty_THold _ rfl⟩ (.cons (lt_map ty_A2_i64 (TyOk.int .i64)) rfl (asub_map ty_A2_i64 (TyOk.int .i64) _) .nil))) (fun _ s7 h6 => ?_)
      rw [hold_Join_L1] at h6
      refine AWp.seq ?_
      refine W.reg [0] rfl ?_
      refine S.sil 28 rfl rfl (fun _ hF => .lss (lk 0 rfl rfl) (lk 1 rfl rfl)) ?_
      refine S.nil ?_
      refine thenQ_n ?_
      refine AWp.seq ?_
      refine AWp.condM (lk 0 rfl rfl) h6 (fun c2 h6 => ?_) (fun c2 h6 => ?_)
      · skip
        refine AWp.skip ?_
        refine thenQ_n ?_
        refine AWp.seq ?_
        refine AWp.block ?_
        refine AWp.seq ?_
        refine W.reg [0, 1, 2, 3, 4, 5] rfl ?_
        refine S.sil 29 rfl rfl (fun _ hF => .move (lk 1 rfl rfl)) ?_
        obtain ⟨j9, m9, h6⟩ := h6.bnd
        refine S.sil 30 rfl rfl (fun _ hF => .ixS sli31 (lk 4 rfl rfl) (lk 2 rfl rfl) m9) ?_
        obtain ⟨v10, ev10, h6⟩ := h6.nam
        refine S.sil 31 rfl rfl (fun _ hF => .nv (.loadC sz66 ag66 (lk 0 rfl rfl) (ty_THold.fl (a1.getD j9 default)) rfl) (congrArg E_THold ev10.symm)) ?_
        refine S.eff 9 rfl rfl (.nf (v2 := .ptr 2 [] 0) (H2 := [.buf 5 (List.map E_THold l5), .map (encE E_A2_i64 (V.int .i64) s7.2.es), .cells (E_THold (default : THold))]) (.alloc zv66) rfl rfl) trivial ?_
        refine S.sil 8 rfl rfl (fun _ hF => .assign (lk 3 rfl rfl)) ?_
        refine S.effN rfl rfl (.nf (H2 := [.buf 5 (List.map E_THold l5), .map (encE E_A2_i64 (V.int .i64) s7.2.es), .cells (E_THold v10)]) (.storeP sz66 (lk 1 rfl rfl) (lk 2 rfl rfl) rfl (.refl _) rfl .nil (by first | rfl | omega) .nil (ty_THold.fl v10) (ty_THold.fl (default : THold)) rfl) rfl rfl) trivial ?_
        refine S.nil ?_
        refine thenQ_n ?_
        refine AWp.wk (Wk.freeze 2 rfl rfl (.same (lk 0 rfl rfl) (.cons (lk 1 rfl rfl) rfl (.ptr .nil (by first | rfl | omega)) (.same (lk 2 rfl rfl) (.same (lk 3 rfl rfl) (.same (lk 4 rfl rfl) (.same (lk 5 rfl rfl) (.same (lk 6 rfl rfl) (.same (lk 7 rfl rfl) (.same (lk 8 rfl rfl) (.same (lk 9 rfl rfl) (.same (lk 10 rfl rfl) (.same (lk 11 rfl rfl) (.same (lk 12 rfl rfl) (.same (lk 13 rfl rfl) .nil)))))))))))))) (.refl _)) ?_
        refine W.reg [0, 1, 2, 3, 4, 5, 6, 7] rfl ?_
        refine S.sil 32 rfl rfl (fun _ hF => .move (lk 10 rfl rfl)) ?_
        refine S.sil 33 rfl rfl (fun _ hF => .fieldAddrC lay66 rfl rfl (lk 2 rfl rfl) rfl flL_nil) ?_
        refine S.sil 34 rfl rfl (fun _ hF => .loadC sz3 ag3 (lk 0 rfl rfl) rfl rfl) ?_
        refine S.sil 35 rfl rfl (fun _ hF => .fieldAddrC lay66 rfl rfl (lk 4 rfl rfl) rfl (flL_c (show flen _ = 1 from rfl) flL_nil)) ?_
        refine S.sil 36 rfl rfl (fun _ hF => .loadC sz3 ag3 (lk 0 rfl rfl) rfl rfl) ?_
        refine S.sil 37 rfl rfl (fun _ hF => .buildArrL (w := E_A2_i64 (#v[v10.Replica, v10.Number] : Vector Int 2)) arr135 zv135 (.cons (lk 2 rfl rfl) rfl rfl rfl (.cons (lk 0 rfl rfl) rfl rfl rfl .nil)) rfl rfl) ?_
        refine S.sil 38 rfl rfl (fun _ hF => .move (lk 6 rfl rfl)) ?_
        obtain ⟨p11, m11, h6⟩ := h6.bnd
        refine S.effN rfl rfl (.nf (H2 := [.buf 5 (List.map E_THold l5), .map (encE E_A2_i64 (V.int .i64) p11.es), .dead]) (.mapPutT und134 key135 kt135 ((TyOk.int .i64).ok) (lk 6 rfl rfl) (lk 1 rfl rfl) (lk 0 rfl rfl) rfl m11 rfl) rfl rfl) trivial ?_
        refine S.nil ?_
        refine blockQ_n ?_
        refine thenQ_n ?_
        refine W.reg [0, 1] rfl ?_
        refine S.sil 39 rfl rfl (fun _ hF => .add (lk 13 rfl rfl) cI) ?_
        refine S.sil 27 rfl rfl (fun _ hF => .move (lk 0 rfl rfl)) ?_
        refine S.nil ?_
        refine thenQ_n ?_
        exact ⟨_, h6.ret, (Wk.selS [0, 1] (by decide) rfl (SelE.leaf (lk 0 rfl rfl) rfl (.refl _) (fun m => ((TyOk.int .i64).lt _ _)) (SelE.leaf (lk 16 rfl rfl) rfl (.refl _) (fun m => ((TyOk.int .i64).lt _ _)) (SelE.leaf (lk 17 rfl rfl) rfl (.refl _) (fun m => (lt_sl rfl (ty_THold.ltm _ _))) (SelE.spec (lk 18 rfl rfl) rfl (.slo (by first | rfl | simp)) rfl rfl (SelE.spec (lk 19 rfl rfl) rfl (.refl _) rfl rfl (SelE.leaf (lk 20 rfl rfl) rfl (.refl _) (fun m => ((TyOk.int .i64).lt _ _)) (SelE.leaf (lk 21 rfl rfl) rfl (.refl _) (fun m => rfl) (SelE.leaf (lk 22 rfl rfl) rfl (.refl _) (fun m => (lt_sl rfl (ty_THold.ltm _ _))) .nil)))))))) (.cons (lt_buf ty_THold) rfl ⟨rfl, RSubL.leafr ty_THold _ rfl⟩ (.cons (lt_map ty_A2_i64 (TyOk.int .i64)) rfl (asub_map ty_A2_i64 (TyOk.int .i64) _) .nil)))⟩
      · skip
        refine AWp.exit ?_
        refine thenQ_x ?_
        refine thenQ_x ?_
        refine blockQ_x ?_
        refine thenQ_n ?_
        exact ⟨_, h6.ret, (Wk.selS [0, 1] (by decide) rfl (SelE.spec (lk 4 rfl rfl) rfl (.slo (by first | rfl | simp)) rfl rfl (SelE.spec (lk 5 rfl rfl) rfl (.refl _) rfl rfl (SelE.leaf (lk 6 rfl rfl) rfl (.refl _) (fun m => ((TyOk.int .i64).lt _ _)) (SelE.leaf (lk 7 rfl rfl) rfl (.refl _) (fun m => rfl) (SelE.leaf (lk 8 rfl rfl) rfl (.refl _) (fun m => (lt_sl rfl (ty_THold.ltm _ _))) .nil))))) (.cons (lt_buf ty_THold) rfl ⟨rfl, RSubL.leafr ty_THold _ rfl⟩ (.cons (lt_map ty_A2_i64 (TyOk.int .i64)) rfl (asub_map ty_A2_i64 (TyOk.int .i64) _) .nil)))⟩
    · skip
      refine thenQ_n ?_
      refine AWp.seq ?_
      refine AWp.seq ?_
      refine W.reg [0, 1, 2] rfl ?_
      refine S.sil 40 rfl rfl (fun _ hF => .move (lk 4 rfl rfl)) ?_
      refine S.sil 41 rfl rfl (fun _ hF => .lenT sli31 (lk 0 rfl rfl) (vsub rfl (.refl _))) ?_
      refine S.sil 42 rfl rfl (fun _ hF => .move cI) ?_
      refine S.nil ?_
      refine thenQ_n ?_
      refine AWp.cutL (fun x14 => ⟨[(7, .slo 5 0 [] 0 0 x14.length 1), (5, (V.int .i64) 0), (4, .nils)], [.buf 5 (List.map E_THold x14)]⟩) nc_then h (fun q12 hq12 h => ?_) (fun x14 h => ?_)
      · refine AWp.block ?_
        refine AWp.loopT (fun s13 => ⟨[(42, (V.int .i64) s13.1), (41, (V.int .i64) (a2.length : Int)), (40, .sl 5 .no (List.map E_THold a2)), (7, .slo 5 0 [] 0 0 s13.2.length 1), (6, .map 1), (5, (V.int .i64) 0), (4, .nils)], [.buf 5 (List.map E_THold s13.2), .map (encE E_A2_i64 (V.int .i64) x8.es)]⟩) hq12 (Wk.selS [0, 1] (by decide) rfl (SelE.leaf (lk 0 rfl rfl) rfl (.refl _) (fun m => ((TyOk.int .i64).lt _ _)) (SelE.leaf (lk 1 rfl rfl) rfl (.refl _) (fun m => ((TyOk.int .i64).lt _ _)) (SelE.leaf (lk 2 rfl rfl) rfl (.refl _) (fun m => (lt_sl rfl (ty_THold.ltm _ _))) (SelE.spec (lk 3 rfl rfl) rfl (.slo (by first | rfl | simp)) rfl rfl (SelE.spec (lk 4 rfl rfl) rfl (.refl _) rfl rfl (SelE.leaf (lk 5 rfl rfl) rfl (.refl _) (fun m => ((TyOk.int .i64).lt _ _)) (SelE.leaf (lk 6 rfl rfl) rfl (.refl _) (fun m => rfl) .nil))))))) (.cons (lt_buf ty_THold) rfl ⟨rfl, RSubL.leafr ty_THold _ rfl⟩ (.cons (lt_map ty_A2_i64 (TyOk.int .i64)) rfl (asub_map ty_A2_i64 (TyOk.int .i64) _) .nil))) (fun _ s13 h12 => ?_)
        rw [hold_Join_L2] at h12
        refine AWp.seq ?_
        refine W.reg [0] rfl ?_
        refine S.sil 43 rfl rfl (fun _ hF => .lss (lk 0 rfl rfl) (lk 1 rfl rfl)) ?_
        refine S.nil ?_
        refine thenQ_n ?_
        refine AWp.seq ?_
        refine AWp.condM (lk 0 rfl rfl) h12 (fun c3 h12 => ?_) (fun c3 h12 => ?_)
        · skip
          refine AWp.skip ?_
          refine thenQ_n ?_
          refine AWp.seq ?_
          refine AWp.block ?_
          refine AWp.seq ?_
          refine W.reg [0, 1, 2, 3] rfl ?_
          obtain ⟨j15, m15, h12⟩ := h12.bnd
          refine S.sil 44 rfl rfl (fun _ hF => .ixS sli31 (lk 3 rfl rfl) (lk 1 rfl rfl) m15) ?_
          obtain ⟨v16, ev16, h12⟩ := h12.nam
          refine S.sil 45 rfl rfl (fun _ hF => .nv (.loadC sz66 ag66 (lk 0 rfl rfl) (ty_THold.fl (a2.getD j15 default)) rfl) (congrArg E_THold ev16.symm)) ?_
          refine S.eff 11 rfl rfl (.nf (v2 := .ptr 2 [] 0) (H2 := [.buf 5 (List.map E_THold s13.2), .map (encE E_A2_i64 (V.int .i64) x8.es), .cells (E_THold (default : THold))]) (.alloc zv66) rfl rfl) trivial ?_
          refine S.effN rfl rfl (.nf (H2 := [.buf 5 (List.map E_THold s13.2), .map (encE E_A2_i64 (V.int .i64) x8.es), .cells (E_THold v16)]) (.storeP sz66 (lk 0 rfl rfl) (lk 1 rfl rfl) rfl (.refl _) rfl .nil (by first | rfl | omega) .nil (ty_THold.fl v16) (ty_THold.fl (default : THold)) rfl) rfl rfl) trivial ?_
          refine S.nil ?_
          refine thenQ_n ?_
          refine AWp.wk (Wk.freeze 2 rfl rfl (.cons (lk 0 rfl rfl) rfl (.ptr .nil (by first | rfl | omega)) (.same (lk 1 rfl rfl) (.same (lk 2 rfl rfl) (.same (lk 3 rfl rfl) (.same (lk 4 rfl rfl) (.same (lk 5 rfl rfl) (.same (lk 6 rfl rfl) (.same (lk 7 rfl rfl) (.same (lk 8 rfl rfl) (.same (lk 9 rfl rfl) (.same (lk 10 rfl rfl) .nil))))))))))) (.refl _)) ?_
          refine AWp.seq ?_
          refine W.reg [0, 1, 2, 3, 4, 5, 6, 7, 8, 9, 10, 11] rfl ?_
          refine S.sil 47 rfl rfl (fun _ hF => .move (lk 8 rfl rfl)) ?_
          refine S.sil 48 rfl rfl (fun _ hF => .fieldAddrC lay66 rfl rfl (lk 1 rfl rfl) rfl flL_nil) ?_
          refine S.sil 49 rfl rfl (fun _ hF => .loadC sz3 ag3 (lk 0 rfl rfl) rfl rfl) ?_
          refine S.sil 50 rfl rfl (fun _ hF => .fieldAddrC lay66 rfl rfl (lk 3 rfl rfl) rfl (flL_c (show flen _ = 1 from rfl) flL_nil)) ?_
          refine S.sil 51 rfl rfl (fun _ hF => .loadC sz3 ag3 (lk 0 rfl rfl) rfl rfl) ?_
          refine S.sil 52 rfl rfl (fun _ hF => .buildArrL (w := E_A2_i64 (#v[v16.Replica, v16.Number] : Vector Int 2)) arr135 zv135 (.cons (lk 2 rfl rfl) rfl rfl rfl (.cons (lk 0 rfl rfl) rfl rfl rfl .nil)) rfl rfl) ?_
          obtain ⟨o17, m17, h12⟩ := h12.bnd
          refine S.qui 53 rfl rfl (fun _ => .mapGetT und134 key135 kt135 ((TyOk.int .i64).ok) zv3 (lk 5 rfl rfl) (lk 0 rfl rfl) rfl m17) ?_
          refine S.sil 46 rfl rfl (fun _ hF => .move (lk 0 rfl rfl)) ?_
          refine S.sil 54 rfl rfl (fun _ hF => .extract (lk 0 rfl rfl) rfl) ?_
          refine S.sil 55 rfl rfl (fun _ hF => .extract (lk 1 rfl rfl) rfl) ?_
          refine S.sil 12 rfl rfl (fun _ hF => .assign (lk 1 rfl rfl)) ?_
          refine S.sil 13 rfl rfl (fun _ hF => .assign (lk 1 rfl rfl)) ?_
          refine S.nil ?_
          refine thenQ_n ?_
          refine AWp.block ?_
          refine AWp.seq ?_
          refine W.reg [0, 1, 2] rfl ?_
          refine S.sil 69 rfl rfl (fun _ hF => .move (lk 0 rfl rfl)) ?_
          refine S.sil 70 rfl rfl (fun _ hF => .not (lk 0 rfl rfl)) ?_
          refine S.sil 68 rfl rfl (fun _ hF => .assign (lk 0 rfl rfl)) ?_
          refine S.nil ?_
          refine thenQ_n ?_
          refine AWp.condM (lk 0 rfl rfl) h12 (fun c4 h12 => ?_) (fun c4 h12 => ?_)
          · skip
            refine W.reg [0, 1, 2, 3, 4] rfl ?_
            refine S.sil 71 rfl rfl (fun _ hF => .move (lk 22 rfl rfl)) ?_
            refine S.sil 72 rfl rfl (fun _ hF => .loadC sz66 ag66 (lk 16 rfl rfl) (ty_THold.fl v16) rfl) ?_
            refine S.sil 73 rfl rfl (fun _ hF => .buildSliceW sli31 zv66 rfl rfl (by decide) (.cons (lk 0 rfl rfl) rfl (.refl _) (ty_THold.fl v16) .nil)) ?_
            obtain ⟨l18, m18, h12⟩ := h12.bnd
            refine S.eff 74 rfl rfl (.nf (v2 := .slo 5 3 [] 0 0 l18.length 1) (H2 := [.dead, .map (encE E_A2_i64 (V.int .i64) x8.es), .dead, .buf 5 (List.map E_THold l18)]) (.appOwnT sli31 und31 zv66 rfl (by decide) (lk 2 rfl rfl) rfl (by first | rfl | simp) (lk 0 rfl rfl) Rd.sl m18 rfl) rfl rfl) trivial ?_
            refine S.sil 7 rfl rfl (fun _ hF => .assign (lk 0 rfl rfl)) ?_
            refine S.nil ?_
            refine blockQ_n ?_
            refine blockQ_n ?_
            refine thenQ_n ?_
            refine W.reg [0, 1] rfl ?_
            refine S.sil 94 rfl rfl (fun _ hF => .add (lk 24 rfl rfl) cI) ?_
            refine S.sil 42 rfl rfl (fun _ hF => .move (lk 0 rfl rfl)) ?_
            refine S.nil ?_
            refine thenQ_n ?_
            exact ⟨_, h12.ret, (Wk.selS [3, 1] (by decide) rfl (SelE.leaf (lk 0 rfl rfl) rfl (.refl _) (fun m => ((TyOk.int .i64).lt _ _)) (SelE.leaf (lk 27 rfl rfl) rfl (.refl _) (fun m => ((TyOk.int .i64).lt _ _)) (SelE.leaf (lk 28 rfl rfl) rfl (.refl _) (fun m => (lt_sl rfl (ty_THold.ltm _ _))) (SelE.spec (lk 2 rfl rfl) rfl (.slo (by first | rfl | simp)) rfl rfl (SelE.spec (lk 30 rfl rfl) rfl (.refl _) rfl rfl (SelE.leaf (lk 31 rfl rfl) rfl (.refl _) (fun m => ((TyOk.int .i64).lt _ _)) (SelE.leaf (lk 32 rfl rfl) rfl (.refl _) (fun m => rfl) .nil))))))) (.cons (lt_buf ty_THold) rfl ⟨rfl, RSubL.leafr ty_THold _ rfl⟩ (.cons (lt_map ty_A2_i64 (TyOk.int .i64)) rfl (asub_map ty_A2_i64 (TyOk.int .i64) _) .nil)))⟩
          · skip
            refine AWp.seq ?_
            refine W.regD [0, 1, 2, 3, 4, 5, 6, 7, 8, 9, 10, 11, 12, 13, 14, 15, 16, 17, 18] mixed ?_
            refine S.sil 76 rfl rfl (fun _ hF => .move (lk 22 rfl rfl)) ?_
            refine S.sil 77 rfl rfl (fun _ hF => .move (lk 5 rfl rfl)) ?_
            obtain ⟨j19, m19, h12⟩ := h12.bnd
            refine S.sil 78 rfl rfl (fun _ hF => .ixO sli31 (lk 1 rfl rfl) (lk 0 rfl rfl) (by first | rfl | simp) m19) ?_
            refine S.sil 79 rfl rfl (fun _ hF => .fieldAddr lay66 rfl rfl (lk 0 rfl rfl)) ?_
            refine S.qui 80 rfl rfl (fun _ => .loadB sz3 ag3 (lk 0 rfl rfl) rfl (.ls (by have := six_lt m19; simp at this ⊢; omega) (.st rfl (flL_c (show flen _ = 1 from rfl) (flL_c (show flen _ = 1 from rfl) flL_nil)) .nil)) (by first | rfl | omega) rfl rfl) ?_
            refine S.sil 81 rfl rfl (fun _ hF => .fieldAddrC lay66 rfl rfl (lk 20 rfl rfl) rfl (flL_c (show flen _ = 1 from rfl) (flL_c (show flen _ = 1 from rfl) flL_nil))) ?_
            refine S.sil 82 rfl rfl (fun _ hF => .loadC sz3 ag3 (lk 0 rfl rfl) rfl rfl) ?_
            refine S.sil 83 rfl rfl (fun _ hF => .neq (lk 2 rfl rfl) (lk 0 rfl rfl)) ?_
            refine S.sil 84 rfl rfl (fun _ hF => .move (lk 0 rfl rfl)) ?_
            refine S.gsil 85 8 84 false rfl rfl rfl (lk 0 rfl rfl) (fun hB _ hF => .move (lk 31 rfl rfl)) ?_
            refine S.gsil 86 8 84 false rfl rfl rfl (lk 1 rfl rfl) (fun hB _ hF => .move (lk 14 rfl rfl)) ?_
            obtain ⟨j20, m20, h12⟩ := h12.bnd
            refine S.gsil 87 8 84 false rfl rfl rfl (lk 2 rfl rfl) (fun hB _ hF => .ixO sli31 (ifT hB (lk 1 rfl rfl)) (ifT hB (lk 0 rfl rfl)) (by first | rfl | simp) (gd_get m20 hB)) ?_
            refine S.gsil 88 8 84 false rfl rfl rfl (lk 3 rfl rfl) (fun hB _ hF => .fieldAddr lay66 rfl rfl (ifT hB (lk 0 rfl rfl))) ?_
            refine S.gqui 89 8 84 false rfl rfl rfl (lk 4 rfl rfl) (fun hB _ => .loadB sz3 ag3 (ifT hB (lk 0 rfl rfl)) rfl (.ls (by have := six_lt (gd_get m20 hB); simp at this ⊢; omega) (.st rfl (flL_c (show flen _ = 1 from rfl) (flL_c (show flen _ = 1 from rfl) (flL_c (show flen _ = 1 from rfl) flL_nil))) .nil)) (by first | rfl | omega) rfl rfl) ?_
            refine S.gsil 90 8 84 false rfl rfl rfl (lk 5 rfl rfl) (fun hB _ hF => .fieldAddrC lay66 rfl rfl (lk 29 rfl rfl) rfl (flL_c (show flen _ = 1 from rfl) (flL_c (show flen _ = 1 from rfl) (flL_c (show flen _ = 1 from rfl) flL_nil)))) ?_
            refine S.gsil 91 8 84 false rfl rfl rfl (lk 6 rfl rfl) (fun hB _ hF => .loadC sz3 ag3 (ifT hB (lk 0 rfl rfl)) rfl rfl) ?_
            refine S.gsil 92 8 84 false rfl rfl rfl (lk 7 rfl rfl) (fun hB _ hF => .neq (ifT hB (lk 2 rfl rfl)) (ifT hB (lk 0 rfl rfl))) ?_
            obtain ⟨v21, ev21, h12⟩ := h12.nam
            refine S.sil 93 rfl rfl (fun _ hF => .nv (.pickOr (lk 8 rfl rfl) cB (fun h => ifT h (lk 0 rfl rfl))) (congrArg V.bool ev21.symm)) ?_
            refine S.sil 75 rfl rfl (fun _ hF => .assign (lk 0 rfl rfl)) ?_
            refine S.nilD (by kernel_rfl) ?_
            refine thenQ_n ?_
            refine AWp.condM (lk 0 rfl rfl) h12 (fun c5 h12 => ?_) (fun c5 h12 => ?_)
            · skip
              refine AWp.seq ?_
              refine W.reg [0, 1] rfl ?_
              refine S.sil 4 rfl rfl (fun _ hF => .assign cNs) ?_
              refine S.sil 5 rfl rfl (fun _ hF => .assign cI) ?_
              refine S.nil ?_
              refine thenQ_n ?_
              refine AWp.prune (.eq (lk 0 rfl rfl) rfl (.eq (lk 1 rfl rfl) rfl (.eq (lk 2 rfl rfl) rfl (.eq (lk 3 rfl rfl) rfl (.eq (lk 12 rfl rfl) rfl (.eq (lk 13 rfl rfl) rfl (.eq (lk 14 rfl rfl) rfl (.eq (lk 15 rfl rfl) rfl (.eq (lk 16 rfl rfl) rfl (.eq (lk 17 rfl rfl) rfl (.eq (lk 18 rfl rfl) rfl (.eq (lk 19 rfl rfl) rfl (.eq (lk 20 rfl rfl) rfl (.eq (lk 21 rfl rfl) rfl (.eq (lk 22 rfl rfl) rfl (.eq (lk 23 rfl rfl) rfl (.eq (lk 24 rfl rfl) rfl (.eq (lk 25 rfl rfl) rfl (.eq (lk 26 rfl rfl) rfl (.eq (lk 27 rfl rfl) rfl (.eq (lk 28 rfl rfl) rfl (.eq (lk 29 rfl rfl) rfl (.eq (lk 30 rfl rfl) rfl (.eq (lk 31 rfl rfl) rfl (.eq (lk 32 rfl rfl) rfl (.eq (lk 33 rfl rfl) rfl (.eq (lk 34 rfl rfl) rfl (.eq (lk 35 rfl rfl) rfl (.eq (lk 36 rfl rfl) rfl (.eq (lk 37 rfl rfl) rfl (.eq (lk 38 rfl rfl) rfl (.eq (lk 39 rfl rfl) rfl (.eq (lk 40 rfl rfl) rfl (.eq (lk 41 rfl rfl) rfl (.eq (lk 42 rfl rfl) rfl (.eq (lk 43 rfl rfl) rfl (.eq (lk 44 rfl rfl) rfl .nil))))))))))))))))))))))))))))))))))))) ?_
              refine AWp.ret ?_
              refine blockQ_r ?_
              refine blockQ_r ?_
              refine thenQ_r ?_
              refine thenQ_r ?_
              refine blockQ_r ?_
              refine thenQ_r ?_
              refine thenQ_r ?_
              have h := Ok.inrq h h12.ret
              obtain rfl := h.ret
              exact endFN rfl (Wk.selS [] .nil rfl (SelE.leaf (lk 1 rfl rfl) rfl (.nils_no _) (fun m => (ty_S_THold.lt ([] : List THold) _)) (SelE.leaf (lk 0 rfl rfl) rfl (.refl _) (fun m => ((TyOk.int .i64).lt _ _)) .nil)) .nil) (.cons (.tmp (lk 0 rfl rfl) rfl) (.cons (.tmp (lk 1 rfl rfl) rfl) .nil)) rfl rfl rfl
            · skip
              refine W.regD [0, 1, 2, 3, 4, 5, 6, 7, 8, 9, 10, 11, 12] mixed ?_
              refine S.sil 56 rfl rfl (fun _ hF => .move (lk 41 rfl rfl)) ?_
              refine S.sil 57 rfl rfl (fun _ hF => .move (lk 24 rfl rfl)) ?_
              refine S.sil 58 rfl rfl (fun _ hF => .move (lk 43 rfl rfl)) ?_
              refine S.sil 59 rfl rfl (fun _ hF => .move (lk 26 rfl rfl)) ?_
              obtain ⟨j22, m22, h12⟩ := h12.bnd
              refine S.sil 60 rfl rfl (fun _ hF => .ixO sli31 (lk 1 rfl rfl) (lk 0 rfl rfl) (by first | rfl | simp) m22) ?_
              refine S.sil 61 rfl rfl (fun _ hF => .fieldAddr lay66 rfl rfl (lk 0 rfl rfl)) ?_
              refine S.qui 62 rfl rfl (fun _ => .loadB sz3 ag3 (lk 0 rfl rfl) rfl (.ls (by have := six_lt m22; simp at this ⊢; omega) (.st rfl (flL_c (show flen _ = 1 from rfl) (flL_c (show flen _ = 1 from rfl) (flL_c (show flen _ = 1 from rfl) (flL_c (show flen _ = 1 from rfl) flL_nil)))) .nil)) (by first | rfl | omega) rfl rfl) ?_
              refine S.sil 63 rfl rfl (fun _ hF => .fieldAddrC lay66 rfl rfl (lk 41 rfl rfl) rfl (flL_c (show flen _ = 1 from rfl) (flL_c (show flen _ = 1 from rfl) (flL_c (show flen _ = 1 from rfl) (flL_c (show flen _ = 1 from rfl) flL_nil))))) ?_
              refine S.sil 64 rfl rfl (fun _ hF => .loadC sz3 ag3 (lk 0 rfl rfl) rfl rfl) ?_
              refine S.sil 65 rfl rfl (fun _ hF => .bmax (lk 2 rfl rfl) (lk 0 rfl rfl)) ?_
              obtain ⟨j23, m23, h12⟩ := h12.bnd
              refine S.sil 66 rfl rfl (fun _ hF => .ixO sli31 (lk 9 rfl rfl) (lk 8 rfl rfl) (by first | rfl | simp) m23) ?_
              refine S.sil 67 rfl rfl (fun _ hF => .fieldAddr lay66 rfl rfl (lk 0 rfl rfl)) ?_
              obtain ⟨v24, ev24, h12⟩ := h12.nam
              refine S.effN rfl rfl (.storeB sz3 (lk 0 rfl rfl) (lk 2 rfl rfl) rfl (.refl _) rfl (.ls (by have := six_lt m23; simp at this ⊢; omega) (.st rfl (flL_c (show flen _ = 1 from rfl) (flL_c (show flen _ = 1 from rfl) (flL_c (show flen _ = 1 from rfl) (flL_c (show flen _ = 1 from rfl) flL_nil)))) .nil)) (by first | rfl | omega) (.ls ({ (s13.2.getD j23 default) with State := (max ((s13.2.getD j22 default).State) v16.State) }) (by have := six_lt m23; simp at this ⊢; omega) (.st rfl .nil rfl)) rfl rfl (congrArg (fun z => ([AObj.buf 5 (List.map E_THold z), .map (encE E_A2_i64 (V.int .i64) x8.es), .dead] : List AObj)) ev24.symm)) trivial ?_
              refine S.nilD (by kernel_rfl) ?_
              refine blockQ_n ?_
              refine blockQ_n ?_
              refine thenQ_n ?_
              refine W.reg [0, 1] rfl ?_
              refine S.sil 94 rfl rfl (fun _ hF => .add (lk 50 rfl rfl) cI) ?_
              refine S.sil 42 rfl rfl (fun _ hF => .move (lk 0 rfl rfl)) ?_
              refine S.nil ?_
              refine thenQ_n ?_
              exact ⟨_, h12.ret, (Wk.selS [0, 1] (by decide) rfl (SelE.leaf (lk 0 rfl rfl) rfl (.refl _) (fun m => ((TyOk.int .i64).lt _ _)) (SelE.leaf (lk 53 rfl rfl) rfl (.refl _) (fun m => ((TyOk.int .i64).lt _ _)) (SelE.leaf (lk 54 rfl rfl) rfl (.refl _) (fun m => (lt_sl rfl (ty_THold.ltm _ _))) (SelE.spec (lk 55 rfl rfl) rfl (.slo (by first | rfl | simp [ev24, ev16])) rfl rfl (SelE.spec (lk 56 rfl rfl) rfl (.refl _) rfl rfl (SelE.leaf (lk 57 rfl rfl) rfl (.refl _) (fun m => ((TyOk.int .i64).lt _ _)) (SelE.leaf (lk 58 rfl rfl) rfl (.refl _) (fun m => rfl) .nil))))))) (.cons (lt_buf ty_THold) rfl ⟨rfl, RSubL.leafr ty_THold _ rfl⟩ (.cons (lt_map ty_A2_i64 (TyOk.int .i64)) rfl (asub_map ty_A2_i64 (TyOk.int .i64) _) .nil)))⟩
        · skip
          refine AWp.exit ?_
          refine thenQ_x ?_
          refine thenQ_x ?_
          refine blockQ_x ?_
          refine thenQ_n ?_
          exact ⟨_, h12.ret, (Wk.selS [0] (by decide) rfl (SelE.spec (lk 4 rfl rfl) rfl (.slo (by first | rfl | simp)) rfl rfl (SelE.leaf (lk 6 rfl rfl) rfl (.refl _) (fun m => ((TyOk.int .i64).lt _ _)) (SelE.leaf (lk 7 rfl rfl) rfl (.refl _) (fun m => rfl) .nil))) (.cons (lt_buf ty_THold) rfl ⟨rfl, RSubL.leafr ty_THold _ rfl⟩ .nil))⟩
      · skip
        refine thenQ_n ?_
        refine AWp.seq ?_
        refine AWp.seq ?_
        refine W.reg [0, 1, 2] rfl ?_
        refine S.sil 95 rfl rfl (fun _ hF => .move (lk 0 rfl rfl)) ?_
        refine S.sil 96 rfl rfl (fun _ hF => .lenO sli31 (lk 0 rfl rfl)) ?_
        refine S.sil 97 rfl rfl (fun _ hF => .gtr (lk 0 rfl rfl) cI) ?_
        refine S.nil ?_
        refine thenQ_n ?_
        refine AWp.condM (lk 0 rfl rfl) h (fun c6 h => ?_) (fun c6 h => ?_)
        · skip
          refine AWp.seq ?_
          refine W.reg [0, 1] rfl ?_
          refine S.sil 4 rfl rfl (fun _ hF => .assign cNs) ?_
          refine S.sil 5 rfl rfl (fun _ hF => .assign cI) ?_
          refine S.nil ?_
          refine thenQ_n ?_
          refine AWp.ret ?_
          refine thenQ_r ?_
          obtain rfl := h.ret
          exact endFN rfl (Wk.selS [] .nil rfl (SelE.leaf (lk 1 rfl rfl) rfl (.nils_no _) (fun m => (ty_S_THold.lt ([] : List THold) _)) (SelE.leaf (lk 0 rfl rfl) rfl (.refl _) (fun m => ((TyOk.int .i64).lt _ _)) .nil)) .nil) (.cons (.tmp (lk 0 rfl rfl) rfl) (.cons (.tmp (lk 1 rfl rfl) rfl) .nil)) rfl rfl rfl
        · skip
          refine AWp.skip ?_
          refine thenQ_n ?_
          refine AWp.seq ?_
          refine W.reg [0, 1] rfl ?_
          refine S.sil 98 rfl rfl (fun _ hF => .move (lk 3 rfl rfl)) ?_
          obtain ⟨l25, m25, h⟩ := h.bnd
          refine S.eff 99 rfl rfl (.nf (H2 := [.buf 5 (List.map E_THold l25)]) (.sortFunc (ρ := Go.Proofs.Try.sort107_ren) srt107 rfl rfl ag66 sz66 ty_THold holdCmp_swo ent107 ent108 ltL_nil (fun x y => C_hold_compare (hold_compare_eq x y)) cF (lk 0 rfl rfl) cF rfl (by first | rfl | simp) m25 rfl) rfl rfl) trivial ?_
          refine S.nil ?_
          refine thenQ_n ?_
          refine AWp.seq ?_
          refine W.reg [0, 1, 2] rfl ?_
          refine S.sil 100 rfl rfl (fun _ hF => .move (lk 5 rfl rfl)) ?_
          refine S.sil 4 rfl rfl (fun _ hF => .assign (lk 0 rfl rfl)) ?_
          refine S.sil 5 rfl rfl (fun _ hF => .assign cI) ?_
          refine S.nil ?_
          refine thenQ_n ?_
          refine AWp.ret ?_
          refine endF_wk (Wk.freeze 0 rfl rfl (.same (lk 0 rfl rfl) (.cons (lk 1 rfl rfl) rfl (.slo (by first | rfl | simp [(sort_len holdCmp_swo m25)])) (.same (lk 0 rfl rfl) (.same (lk 1 rfl rfl) .nil)))) (.refl _)) ?_
          obtain rfl := h.ret
          exact endFN rfl (Wk.selS [] .nil rfl (SelE.leaf (lk 1 rfl rfl) rfl (.refl _) (fun m => (ty_S_THold.lt _ _)) (SelE.leaf (lk 0 rfl rfl) rfl (.refl _) (fun m => ((TyOk.int .i64).lt _ _)) .nil)) .nil) (.cons (.tmp (lk 0 rfl rfl) rfl) (.cons (.tmp (lk 1 rfl rfl) rfl) .nil)) rfl rfl rfl
theorem C_lock_Compare {a1 : TLock} {a2 : TLock} {r : Int} (h : lock_Compare a1 a2 = some r) : PureC Pg 109 [E_TLock a1, E_TLock a2] ((V.int .i64) r) := by
  refine PureC.ofF (CallSpec.of_bodyF 42 0 fn109 rfl rfl rfl (Nat.le_of_ble_eq_true rfl) ?_) (ltL_c (ty_TLock.lt _ _) (ltL_c (ty_TLock.lt _ _) ltL_nil)) ((TyOk.int .i64).lt _ _)
  replace h := Ok.of h
  unfold lock_Compare at h
  refine AWp.seq ?_
  refine W.reg [0, 1, 2] rfl ?_
  refine S.eff 2 rfl rfl (.nf (v2 := .ptr 0 [] 0) (H2 := [.cells (E_TLock a1)]) (.box (lk 0 rfl rfl) rfl) rfl rfl) trivial ?_
  refine S.eff 3 rfl rfl (.nf (v2 := .ptr 1 [] 0) (H2 := [.cells (E_TLock a1), .cells (E_TLock a2)]) (.box (lk 2 rfl rfl) rfl) rfl rfl) trivial ?_
  refine S.sil 4 rfl rfl (fun _ hF => .assign cI) ?_
  refine S.nil ?_
  refine thenQ_n ?_
  refine AWp.wk (Wk.freeze 0 rfl rfl (.same (lk 0 rfl rfl) (.same (lk 1 rfl rfl) (.cons (lk 2 rfl rfl) rfl (.ptr .nil (by first | rfl | omega)) .nil))) (.refl _)) ?_
  refine AWp.wk (Wk.freeze 1 rfl rfl (.same (lk 0 rfl rfl) (.cons (lk 1 rfl rfl) rfl (.ptr .nil (by first | rfl | omega)) (.same (lk 2 rfl rfl) .nil))) (.refl _)) ?_
  refine AWp.seq ?_
  refine AWp.seq ?_
  refine W.reg [0, 1, 2, 3, 4, 5, 6, 7, 8, 9, 10, 11, 12, 13, 14, 15, 16, 17, 18, 19, 20, 21] rfl ?_
  refine S.sil 7 rfl rfl (fun _ hF => .fieldAddrC lay30 rfl rfl (lk 2 rfl rfl) rfl flL_nil) ?_
  refine S.sil 8 rfl rfl (fun _ hF => .loadC sz3 ag3 (lk 0 rfl rfl) rfl rfl) ?_
  refine S.sil 9 rfl rfl (fun _ hF => .fieldAddrC lay30 rfl rfl (lk 3 rfl rfl) rfl flL_nil) ?_
  refine S.sil 10 rfl rfl (fun _ hF => .loadC sz3 ag3 (lk 0 rfl rfl) rfl rfl) ?_
  refine S.sil 11 rfl rfl (fun _ hF => .buildArrL (w := E_A2_i64 (#v[a1.Seq, a2.Seq] : Vector Int 2)) arr135 zv135 (.cons (lk 2 rfl rfl) rfl rfl rfl (.cons (lk 0 rfl rfl) rfl rfl rfl .nil)) rfl rfl) ?_
  refine S.sil 12 rfl rfl (fun _ hF => .fieldAddrC lay30 rfl rfl (lk 7 rfl rfl) rfl (flL_c (show flen _ = 1 from rfl) flL_nil)) ?_
  refine S.sil 13 rfl rfl (fun _ hF => .loadC sz3 ag3 (lk 0 rfl rfl) rfl rfl) ?_
  refine S.sil 14 rfl rfl (fun _ hF => .fieldAddrC lay30 rfl rfl (lk 8 rfl rfl) rfl (flL_c (show flen _ = 1 from rfl) flL_nil)) ?_
  refine S.sil 15 rfl rfl (fun _ hF => .loadC sz3 ag3 (lk 0 rfl rfl) rfl rfl) ?_
  refine S.sil 16 rfl rfl (fun _ hF => .buildArrL (w := E_A2_i64 (#v[a1.Ver, a2.Ver] : Vector Int 2)) arr135 zv135 (.cons (lk 2 rfl rfl) rfl rfl rfl (.cons (lk 0 rfl rfl) rfl rfl rfl .nil)) rfl rfl) ?_
  refine S.sil 17 rfl rfl (fun _ hF => .fieldAddrC lay30 rfl rfl (lk 12 rfl rfl) rfl (flL_c (show flen _ = 1 from rfl) (flL_c (show flen _ = 1 from rfl) flL_nil))) ?_
  refine S.sil 18 rfl rfl (fun _ hF => .loadC sz3 ag3 (lk 0 rfl rfl) rfl rfl) ?_
  refine S.sil 19 rfl rfl (fun _ hF => .fieldAddrC lay30 rfl rfl (lk 13 rfl rfl) rfl (flL_c (show flen _ = 1 from rfl) (flL_c (show flen _ = 1 from rfl) flL_nil))) ?_
  refine S.sil 20 rfl rfl (fun _ hF => .loadC sz3 ag3 (lk 0 rfl rfl) rfl rfl) ?_
  refine S.sil 21 rfl rfl (fun _ hF => .buildArrL (w := E_A2_i64 (#v[a1.Holder, a2.Holder] : Vector Int 2)) arr135 zv135 (.cons (lk 2 rfl rfl) rfl rfl rfl (.cons (lk 0 rfl rfl) rfl rfl rfl .nil)) rfl rfl) ?_
  refine S.sil 22 rfl rfl (fun _ hF => .fieldAddrC lay30 rfl rfl (lk 17 rfl rfl) rfl (flL_c (show flen _ = 1 from rfl) (flL_c (show flen _ = 1 from rfl) (flL_c (show flen _ = 1 from rfl) flL_nil)))) ?_
  refine S.sil 23 rfl rfl (fun _ hF => .loadC sz3 ag3 (lk 0 rfl rfl) rfl rfl) ?_
  refine S.sil 24 rfl rfl (fun _ hF => .fieldAddrC lay30 rfl rfl (lk 18 rfl rfl) rfl (flL_c (show flen _ = 1 from rfl) (flL_c (show flen _ = 1 from rfl) (flL_c (show flen _ = 1 from rfl) flL_nil)))) ?_
  refine S.sil 25 rfl rfl (fun _ hF => .loadC sz3 ag3 (lk 0 rfl rfl) rfl rfl) ?_
  refine S.sil 26 rfl rfl (fun _ hF => .buildArrL (w := E_A2_i64 (#v[a1.Value, a2.Value] : Vector Int 2)) arr135 zv135 (.cons (lk 2 rfl rfl) rfl rfl rfl (.cons (lk 0 rfl rfl) rfl rfl rfl .nil)) rfl rfl) ?_
  refine S.sil 27 rfl rfl (fun _ hF => .buildArrL (w := E_A4_A2_i64 (#v[(#v[a1.Seq, a2.Seq] : Vector Int 2), (#v[a1.Ver, a2.Ver] : Vector Int 2), (#v[a1.Holder, a2.Holder] : Vector Int 2), (#v[a1.Value, a2.Value] : Vector Int 2)] : Vector (Vector Int 2) 4)) arr172 zv172 (.cons (lk 15 rfl rfl) rfl rfl (ty_A2_i64.fl (#v[a1.Seq, a2.Seq] : Vector Int 2)) (.cons (lk 10 rfl rfl) rfl rfl (ty_A2_i64.fl (#v[a1.Ver, a2.Ver] : Vector Int 2)) (.cons (lk 5 rfl rfl) rfl rfl (ty_A2_i64.fl (#v[a1.Holder, a2.Holder] : Vector Int 2)) (.cons (lk 0 rfl rfl) rfl rfl (ty_A2_i64.fl (#v[a1.Value, a2.Value] : Vector Int 2)) .nil)))) rfl rfl) ?_
  refine S.sil 28 rfl rfl (fun _ hF => .move cI) ?_
  refine S.nil ?_
  refine thenQ_n ?_
  refine AWp.prune (.eq (lk 0 rfl rfl) rfl (.eq (lk 1 rfl rfl) rfl (.eq (lk 22 rfl rfl) rfl .nil))) ?_
  refine AWp.cutL (fun x5 => ⟨[(4, (V.int .i64) 0)], []⟩) nc_then h (fun q3 hq3 h => ?_) (fun x5 h => ?_)
  · refine AWp.block ?_
    refine AWp.loopT (fun s4 => ⟨[(28, (V.int .i64) s4), (27, E_A4_A2_i64 (#v[(#v[a1.Seq, a2.Seq] : Vector Int 2), (#v[a1.Ver, a2.Ver] : Vector Int 2), (#v[a1.Holder, a2.Holder] : Vector Int 2), (#v[a1.Value, a2.Value] : Vector Int 2)] : Vector (Vector Int 2) 4)), (4, (V.int .i64) 0)], []⟩) hq3 (Wk.selS [] (by decide) rfl (SelE.leaf (lk 0 rfl rfl) rfl (.refl _) (fun m => ((TyOk.int .i64).lt _ _)) (SelE.leaf (lk 1 rfl rfl) rfl (.refl _) (fun m => (ty_A4_A2_i64.lt _ _)) (SelE.leaf (lk 2 rfl rfl) rfl (.refl _) (fun m => ((TyOk.int .i64).lt _ _)) .nil))) .nil) (fun _ s4 h3 => ?_)
    rw [lock_Compare_L1] at h3
    refine AWp.seq ?_
    refine W.reg [0] rfl ?_
    refine S.sil 29 rfl rfl (fun _ hF => .lss (lk 0 rfl rfl) cI) ?_
    refine S.nil ?_
    refine thenQ_n ?_
    refine AWp.seq ?_
    refine AWp.condM (lk 0 rfl rfl) h3 (fun c1 h3 => ?_) (fun c1 h3 => ?_)
    · skip
      refine AWp.skip ?_
      refine thenQ_n ?_
      refine AWp.seq ?_
      refine AWp.block ?_
      refine AWp.seq ?_
      refine W.reg [0, 1, 2] rfl ?_
      obtain ⟨k6, m6, h3⟩ := h3.bnd
      refine S.sil 30 rfl rfl (fun _ hF => .ixV arr172 (lk 2 rfl rfl) (lk 1 rfl rfl) m6 rfl) ?_
      refine S.eff 6 rfl rfl (.nf (v2 := .ptr 0 [] 0) (H2 := [.cells (E_A2_i64 (default : Vector Int 2))]) (.alloc zv135) rfl rfl) trivial ?_
      obtain ⟨v7, ev7, h3⟩ := h3.nam
      refine S.effN rfl rfl (.nf (H2 := [.cells (E_A2_i64 v7)]) (.storeP sz135 (lk 0 rfl rfl) (lk 1 rfl rfl) rfl (.refl _) rfl .nil (by first | rfl | omega) .nil (ty_A2_i64.fl ((#v[(#v[a1.Seq, a2.Seq] : Vector Int 2), (#v[a1.Ver, a2.Ver] : Vector Int 2), (#v[a1.Holder, a2.Holder] : Vector Int 2), (#v[a1.Value, a2.Value] : Vector Int 2)] : Vector (Vector Int 2) 4).get k6)) (ty_A2_i64.fl (default : Vector Int 2)) (congrArg (fun z => ([AObj.cells (E_A2_i64 z)] : List AObj)) ev7.symm)) rfl rfl) trivial ?_
      refine S.nil ?_
      refine thenQ_n ?_
      refine AWp.wk (Wk.freeze 0 rfl rfl (.cons (lk 0 rfl rfl) rfl (.ptr .nil (by first | rfl | omega)) (.same (lk 1 rfl rfl) (.same (lk 2 rfl rfl) (.same (lk 3 rfl rfl) (.same (lk 4 rfl rfl) (.same (lk 5 rfl rfl) .nil)))))) (.refl _)) ?_
      refine AWp.seq ?_
      refine W.reg [0, 1, 2, 3, 4] rfl ?_
      obtain ⟨k8, m8, h3⟩ := h3.bnd
      refine S.sil 31 rfl rfl (fun _ hF => .ixC arr135 (lk 0 rfl rfl) cI m8) ?_
      refine S.sil 32 rfl rfl (fun _ hF => .loadC sz3 ag3 (lk 0 rfl rfl) rfl rfl) ?_
      obtain ⟨k9, m9, h3⟩ := h3.bnd
      refine S.sil 33 rfl rfl (fun _ hF => .ixC arr135 (lk 2 rfl rfl) cI m9) ?_
      refine S.sil 34 rfl rfl (fun _ hF => .loadC sz3 ag3 (lk 0 rfl rfl) rfl rfl) ?_
      refine S.sil 35 rfl rfl (fun _ hF => .neq (lk 2 rfl rfl) (lk 0 rfl rfl)) ?_
      refine S.nil ?_
      refine thenQ_n ?_
      refine AWp.condM (lk 0 rfl rfl) h3 (fun c2 h3 => ?_) (fun c2 h3 => ?_)
      · skip
        refine AWp.seq ?_
        refine AWp.seq ?_
        refine W.reg [0, 1, 2, 3, 4] rfl ?_
        obtain ⟨k10, m10, h3⟩ := h3.bnd
        refine S.sil 36 rfl rfl (fun _ hF => .ixC arr135 (lk 5 rfl rfl) cI m10) ?_
        refine S.sil 37 rfl rfl (fun _ hF => .loadC sz3 ag3 (lk 0 rfl rfl) rfl rfl) ?_
        obtain ⟨k11, m11, h3⟩ := h3.bnd
        refine S.sil 38 rfl rfl (fun _ hF => .ixC arr135 (lk 7 rfl rfl) cI m11) ?_
        refine S.sil 39 rfl rfl (fun _ hF => .loadC sz3 ag3 (lk 0 rfl rfl) rfl rfl) ?_
        refine S.sil 40 rfl rfl (fun _ hF => .gtr (lk 2 rfl rfl) (lk 0 rfl rfl)) ?_
        refine S.nil ?_
        refine thenQ_n ?_
        refine AWp.condM (lk 0 rfl rfl) h3 (fun c3 h3 => ?_) (fun c3 h3 => ?_)
        · skip
          refine AWp.seq ?_
          refine W.reg [0] rfl ?_
          refine S.sil 4 rfl rfl (fun _ hF => .assign cI) ?_
          refine S.nil ?_
          refine thenQ_n ?_
          refine AWp.ret ?_
          refine thenQ_r ?_
          refine blockQ_r ?_
          refine thenQ_r ?_
          refine thenQ_r ?_
          refine blockQ_r ?_
          refine thenQ_r ?_
          refine thenQ_r ?_
          have h := Ok.inrq h h3.ret
          obtain rfl := h.ret
          exact endF1 rfl (Wk.selS [] .nil rfl (SelE.leaf (lk 0 rfl rfl) rfl (.refl _) (fun m => ((TyOk.int .i64).lt _ _)) .nil) .nil) (.tmp (lk 0 rfl rfl) rfl) rfl rfl
        · skip
          refine AWp.skip ?_
          refine thenQ_n ?_
          refine AWp.seq ?_
          refine W.reg [0] rfl ?_
          refine S.sil 4 rfl rfl (fun _ hF => .assign cI) ?_
          refine S.nil ?_
          refine thenQ_n ?_
          refine AWp.ret ?_
          refine blockQ_r ?_
          refine thenQ_r ?_
          refine thenQ_r ?_
          refine blockQ_r ?_
          refine thenQ_r ?_
          refine thenQ_r ?_
          have h := Ok.inrq h h3.ret
          obtain rfl := h.ret
          exact endF1 rfl (Wk.selS [] .nil rfl (SelE.leaf (lk 0 rfl rfl) rfl (.refl _) (fun m => ((TyOk.int .i64).lt _ _)) .nil) .nil) (.tmp (lk 0 rfl rfl) rfl) rfl rfl
      · skip
        refine AWp.skip ?_
        refine blockQ_n ?_
        refine thenQ_n ?_
        refine W.reg [0, 1] rfl ?_
        refine S.sil 41 rfl rfl (fun _ hF => .add (lk 8 rfl rfl) cI) ?_
        refine S.sil 28 rfl rfl (fun _ hF => .move (lk 0 rfl rfl)) ?_
        refine S.nil ?_
        refine thenQ_n ?_
        exact ⟨_, h3.ret, (Wk.selS [] (by decide) rfl (SelE.leaf (lk 0 rfl rfl) rfl (.refl _) (fun m => ((TyOk.int .i64).lt _ _)) (SelE.leaf (lk 11 rfl rfl) rfl (.refl _) (fun m => (ty_A4_A2_i64.lt _ _)) (SelE.leaf (lk 12 rfl rfl) rfl (.refl _) (fun m => ((TyOk.int .i64).lt _ _)) .nil))) .nil)⟩
    · skip
      refine AWp.exit ?_
      refine thenQ_x ?_
      refine thenQ_x ?_
      refine blockQ_x ?_
      refine thenQ_n ?_
      exact ⟨_, h3.ret, (Wk.selS [] (by decide) rfl (SelE.leaf (lk 3 rfl rfl) rfl (.refl _) (fun m => ((TyOk.int .i64).lt _ _)) .nil) .nil)⟩
  · skip
    refine thenQ_n ?_
    refine AWp.seq ?_
    refine W.reg [0] rfl ?_
    refine S.sil 4 rfl rfl (fun _ hF => .assign cI) ?_
    refine S.nil ?_
    refine thenQ_n ?_
    refine AWp.ret ?_
    obtain rfl := h.ret
    exact endF1 rfl (Wk.selS [] .nil rfl (SelE.leaf (lk 0 rfl rfl) rfl (.refl _) (fun m => ((TyOk.int .i64).lt _ _)) .nil) .nil) (.tmp (lk 0 rfl rfl) rfl) rfl rfl
theorem C_lock_Join {a1 : TLock} {a2 : TLock} {r : TLock} (h : lock_Join a1 a2 = some r) : PureC Pg 58 [E_TLock a1, E_TLock a2] (E_TLock r) := by
  refine PureC.ofF (CallSpec.of_bodyF 11 0 fn58 rfl rfl rfl (Nat.le_of_ble_eq_true rfl) ?_) (ltL_c (ty_TLock.lt _ _) (ltL_c (ty_TLock.lt _ _) ltL_nil)) (ty_TLock.lt _ _)
  replace h := Ok.of h
  unfold lock_Join at h
  refine AWp.seq ?_
  refine W.reg [0, 1, 2] rfl ?_
  refine S.eff 2 rfl rfl (.nf (v2 := .ptr 0 [] 0) (H2 := [.cells (E_TLock a1)]) (.box (lk 0 rfl rfl) rfl) rfl rfl) trivial ?_
  refine S.eff 3 rfl rfl (.nf (v2 := .ptr 1 [] 0) (H2 := [.cells (E_TLock a1), .cells (E_TLock a2)]) (.box (lk 2 rfl rfl) rfl) rfl rfl) trivial ?_
  refine S.eff 4 rfl rfl (.nf (v2 := .ptr 2 [] 0) (H2 := [.cells (E_TLock a1), .cells (E_TLock a2), .cells (E_TLock (default : TLock))]) (.alloc zv30) rfl rfl) trivial ?_
  refine S.nil ?_
  refine thenQ_n ?_
  refine AWp.wk (Wk.freeze 0 rfl rfl (.same (lk 0 rfl rfl) (.same (lk 1 rfl rfl) (.cons (lk 2 rfl rfl) rfl (.ptr .nil (by first | rfl | omega)) .nil))) (.refl _)) ?_
  refine AWp.wk (Wk.freeze 1 rfl rfl (.same (lk 0 rfl rfl) (.cons (lk 1 rfl rfl) rfl (.ptr .nil (by first | rfl | omega)) (.same (lk 2 rfl rfl) .nil))) (.refl _)) ?_
  refine AWp.seq ?_
  refine AWp.seq ?_
  refine W.reg [0, 1, 2, 3] rfl ?_
  refine S.sil 5 rfl rfl (fun _ hF => .loadC sz30 ag30 (lk 2 rfl rfl) (ty_TLock.fl a1) rfl) ?_
  refine S.sil 6 rfl rfl (fun _ hF => .loadC sz30 ag30 (lk 2 rfl rfl) (ty_TLock.fl a2) rfl) ?_
  obtain ⟨r3, m3, h⟩ := h.bnd
  refine S.sil 7 rfl rfl (fun _ hF => .callQ ent109 cF (.c (lk 1 rfl rfl) (V.sub.refl _) (.c (lk 0 rfl rfl) (V.sub.refl _) .nil)) (C_lock_Compare m3)) ?_
  refine S.sil 8 rfl rfl (fun _ hF => .lss (lk 0 rfl rfl) cI) ?_
  refine S.nil ?_
  refine thenQ_n ?_
  refine AWp.condM (lk 0 rfl rfl) h (fun c1 h => ?_) (fun c1 h => ?_)
  · skip
    refine AWp.seq ?_
    refine W.reg [0, 1] rfl ?_
    refine S.sil 9 rfl rfl (fun _ hF => .loadC sz30 ag30 (lk 5 rfl rfl) (ty_TLock.fl a2) rfl) ?_
    refine S.effN rfl rfl (.nf (H2 := [.dead, .dead, .cells (E_TLock a2)]) (.storeP sz30 (lk 5 rfl rfl) (lk 0 rfl rfl) rfl (.refl _) rfl .nil (by first | rfl | omega) .nil (ty_TLock.fl a2) (ty_TLock.fl (default : TLock)) rfl) rfl rfl) trivial ?_
    refine S.nil ?_
    refine thenQ_n ?_
    refine AWp.ret ?_
    refine thenQ_r ?_
    refine endF_wk (Wk.freeze 2 rfl rfl (.cons (lk 5 rfl rfl) rfl (.ptr .nil (by first | rfl | omega)) .nil) (.refl _)) ?_
    obtain rfl := h.ret
    exact endF1 rfl (Wk.selS [] .nil rfl (SelE.leaf (lk 0 rfl rfl) rfl (.refl _) (fun m => (lt_cptr (ty_TLock.lt _ _))) .nil) .nil) (.cellC sz30 ag30 (lk 0 rfl rfl) (ty_TLock.fl _) rfl) rfl rfl
  · skip
    refine AWp.skip ?_
    refine thenQ_n ?_
    refine AWp.seq ?_
    refine W.reg [0, 1] rfl ?_
    refine S.sil 10 rfl rfl (fun _ hF => .loadC sz30 ag30 (lk 6 rfl rfl) (ty_TLock.fl a1) rfl) ?_
    refine S.effN rfl rfl (.nf (H2 := [.dead, .dead, .cells (E_TLock a1)]) (.storeP sz30 (lk 5 rfl rfl) (lk 0 rfl rfl) rfl (.refl _) rfl .nil (by first | rfl | omega) .nil (ty_TLock.fl a1) (ty_TLock.fl (default : TLock)) rfl) rfl rfl) trivial ?_
    refine S.nil ?_
    refine thenQ_n ?_
    refine AWp.ret ?_
    refine endF_wk (Wk.freeze 2 rfl rfl (.cons (lk 5 rfl rfl) rfl (.ptr .nil (by first | rfl | omega)) .nil) (.refl _)) ?_
    obtain rfl := h.ret
    exact endF1 rfl (Wk.selS [] .nil rfl (SelE.leaf (lk 0 rfl rfl) rfl (.refl _) (fun m => (lt_cptr (ty_TLock.lt _ _))) .nil) .nil) (.cellC sz30 ag30 (lk 0 rfl rfl) (ty_TLock.fl _) rfl) rfl rfl
theorem C_field_Join {a1 : TField} {a2 : TField} {r : TField × Int} (h : field_Join a1 a2 = some r) : PureC Pg 27 [E_TField a1, E_TField a2] (.tup [E_TField r.1, (V.int .i64) r.2]) := by
  refine PureC.ofF (CallSpec.of_bodyF 64 0 fn27 rfl rfl rfl (Nat.le_of_ble_eq_true rfl) ?_) (ltL_c (ty_TField.lt _ _) (ltL_c (ty_TField.lt _ _) ltL_nil)) (lt_tup (ltL_c (ty_TField.lt _ _) (ltL_c ((TyOk.int .i64).lt _ _) ltL_nil)))
  replace h := Ok.of h
  unfold field_Join at h
  refine AWp.seq ?_
  refine W.reg [0, 1, 2, 3] rfl ?_
  refine S.eff 2 rfl rfl (.nf (v2 := .ptr 0 [] 0) (H2 := [.cells (E_TField a1)]) (.box (lk 0 rfl rfl) rfl) rfl rfl) trivial ?_
  refine S.eff 3 rfl rfl (.nf (v2 := .ptr 1 [] 0) (H2 := [.cells (E_TField a1), .cells (E_TField a2)]) (.box (lk 2 rfl rfl) rfl) rfl rfl) trivial ?_
  refine S.eff 4 rfl rfl (.nf (v2 := .ptr 2 [] 0) (H2 := [.cells (E_TField a1), .cells (E_TField a2), .cells (.st [V.str (default : ByteArray), (V.int .i64) 0, (V.int .i64) 0, E_TCounter (default : TCounter), E_TLock (default : TLock), .nils])]) (.alloc zv33) rfl rfl) trivial ?_
  refine S.sil 5 rfl rfl (fun _ hF => .assign cI) ?_
  refine S.nil ?_
  refine thenQ_n ?_
  refine AWp.wk (Wk.freeze 1 rfl rfl (.same (lk 0 rfl rfl) (.same (lk 1 rfl rfl) (.cons (lk 2 rfl rfl) rfl (.ptr .nil (by first | rfl | omega)) (.same (lk 3 rfl rfl) .nil)))) (.refl _)) ?_
  refine AWp.seq ?_
  refine AWp.seq ?_
  refine W.reg [0, 1, 2, 3, 4, 5, 6, 7, 8, 9, 10, 11, 12, 13, 14, 15, 16, 17, 18] rfl ?_
  refine S.sil 9 rfl rfl (fun _ hF => .fieldAddr lay33 rfl rfl (lk 3 rfl rfl)) ?_
  refine S.qui 10 rfl rfl (fun _ => .loadP sz9 ag9 (lk 0 rfl rfl) rfl (.st rfl flL_nil .nil) (by first | rfl | omega) rfl rfl) ?_
  refine S.sil 11 rfl rfl (fun _ hF => .fieldAddrC lay33 rfl rfl (lk 4 rfl rfl) rfl flL_nil) ?_
  refine S.sil 12 rfl rfl (fun _ hF => .loadC sz9 ag9 (lk 0 rfl rfl) rfl rfl) ?_
  refine S.sil 13 rfl rfl (fun _ hF => .neqS (lk 2 rfl rfl) (lk 0 rfl rfl)) ?_
  refine S.sil 14 rfl rfl (fun _ hF => .move (lk 0 rfl rfl)) ?_
  refine S.gsil 15 5 14 false rfl rfl rfl (lk 0 rfl rfl) (fun hB _ hF => .fieldAddr lay33 rfl rfl (lk 9 rfl rfl)) ?_
  refine S.gqui 16 5 14 false rfl rfl rfl (lk 1 rfl rfl) (fun hB _ => .loadP sz3 ag3 (ifT hB (lk 0 rfl rfl)) rfl (.st rfl (flL_c (show flen _ = 1 from rfl) flL_nil) .nil) (by first | rfl | omega) rfl rfl) ?_
  refine S.gsil 17 5 14 false rfl rfl rfl (lk 2 rfl rfl) (fun hB _ hF => .fieldAddrC lay33 rfl rfl (lk 10 rfl rfl) rfl (flL_c (show flen _ = 1 from rfl) flL_nil)) ?_
  refine S.gsil 18 5 14 false rfl rfl rfl (lk 3 rfl rfl) (fun hB _ hF => .loadC sz3 ag3 (ifT hB (lk 0 rfl rfl)) rfl rfl) ?_
  refine S.gsil 19 5 14 false rfl rfl rfl (lk 4 rfl rfl) (fun hB _ hF => .neq (ifT hB (lk 2 rfl rfl)) (ifT hB (lk 0 rfl rfl))) ?_
  refine S.sil 20 rfl rfl (fun _ hF => .pickOr (lk 5 rfl rfl) cB (fun h => ifT h (lk 0 rfl rfl))) ?_
  refine S.sil 21 rfl rfl (fun _ hF => .move (lk 0 rfl rfl)) ?_
  refine S.gsil 22 12 21 false rfl rfl rfl (lk 0 rfl rfl) (fun hB _ hF => .fieldAddr lay33 rfl rfl (lk 16 rfl rfl)) ?_
  refine S.gqui 23 12 21 false rfl rfl rfl (lk 1 rfl rfl) (fun hB _ => .loadP sz3 ag3 (ifT hB (lk 0 rfl rfl)) rfl (.st rfl (flL_c (show flen _ = 1 from rfl) (flL_c (show flen _ = 1 from rfl) flL_nil)) .nil) (by first | rfl | omega) rfl rfl) ?_
  refine S.gsil 24 12 21 false rfl rfl rfl (lk 2 rfl rfl) (fun hB _ hF => .fieldAddrC lay33 rfl rfl (lk 17 rfl rfl) rfl (flL_c (show flen _ = 1 from rfl) (flL_c (show flen _ = 1 from rfl) flL_nil))) ?_
  refine S.gsil 25 12 21 false rfl rfl rfl (lk 3 rfl rfl) (fun hB _ hF => .loadC sz3 ag3 (ifT hB (lk 0 rfl rfl)) rfl rfl) ?_
  refine S.gsil 26 12 21 false rfl rfl rfl (lk 4 rfl rfl) (fun hB _ hF => .neq (ifT hB (lk 2 rfl rfl)) (ifT hB (lk 0 rfl rfl))) ?_
  obtain ⟨v3, ev3, h⟩ := h.nam
  refine S.sil 27 rfl rfl (fun _ hF => .nv (.pickOr (lk 5 rfl rfl) cB (fun h => ifT h (lk 0 rfl rfl))) (congrArg V.bool ev3.symm)) ?_
  refine S.nil ?_
  refine thenQ_n ?_
  refine AWp.prune (.eq (lk 0 rfl rfl) rfl (.eq (lk 19 rfl rfl) rfl (.eq (lk 20 rfl rfl) rfl (.eq (lk 21 rfl rfl) rfl (.eq (lk 22 rfl rfl) rfl .nil))))) ?_
  refine AWp.condM (lk 0 rfl rfl) h (fun c1 h => ?_) (fun c1 h => ?_)
  · skip
    refine AWp.seq ?_
    refine W.reg [0, 1, 2] rfl ?_
    obtain ⟨v4, ev4, h⟩ := h.nam
    refine S.sil 28 rfl rfl (fun _ hF => .nv (.vs (v := .st [V.str (default : ByteArray), (V.int .i64) 0, (V.int .i64) 0, E_TCounter (default : TCounter), E_TLock (default : TLock), .nils]) (v2 := E_TField (⟨(default : ByteArray), 0, 0, (default : TCounter), (default : TLock), ([] : List THold)⟩ : TField)) (.buildStW lay33 zv33 rfl .nil) rfl (.st (.cons (.refl _) (.cons (.refl _) (.cons (.refl _) (.cons (.refl _) (.cons (.refl _) (.cons (.nils_no _) .nil)))))))) (congrArg E_TField ev4.symm)) ?_
    refine S.effN rfl rfl (.nf (H2 := [.cells (E_TField a1), .dead, .cells (E_TField v4)]) (.storeP sz33 (lk 3 rfl rfl) (lk 0 rfl rfl) rfl (.refl _) rfl .nil (by first | rfl | omega) .nil (ty_TField.fl v4) (fl_st (flL_c (show flen _ = 1 from rfl) (flL_c (show flen _ = 1 from rfl) (flL_c (show flen _ = 1 from rfl) (flL_c (ty_TCounter.fl (default : TCounter)) (flL_c (ty_TLock.fl (default : TLock)) (flL_c (show flen _ = 1 from rfl) flL_nil))))))) rfl) rfl rfl) trivial ?_
    refine S.sil 5 rfl rfl (fun _ hF => .assign cI) ?_
    refine S.nil ?_
    refine thenQ_n ?_
    refine AWp.ret ?_
    refine thenQ_r ?_
    refine endF_wk (Wk.freeze 2 rfl rfl (.same (lk 0 rfl rfl) (.same (lk 0 rfl rfl) (.cons (lk 4 rfl rfl) rfl (.ptr .nil (by first | rfl | omega)) .nil))) (.refl _)) ?_
    obtain rfl := h.ret
    exact endFN rfl (Wk.selS [] .nil rfl (SelE.leaf (lk 2 rfl rfl) rfl (.refl _) (fun m => (lt_cptr (ty_TField.lt _ _))) (SelE.leaf (lk 0 rfl rfl) rfl (.refl _) (fun m => ((TyOk.int .i64).lt _ _)) .nil)) .nil) (.cons (.cellC sz33 ag33 (lk 0 rfl rfl) (ty_TField.fl _) rfl) (.cons (.tmp (lk 1 rfl rfl) rfl) .nil)) rfl rfl rfl
  · skip
    refine AWp.skip ?_
    refine thenQ_n ?_
    refine AWp.seq ?_
    refine W.reg [0, 1, 2, 3, 4, 5, 6, 7, 8, 9, 10] rfl ?_
    refine S.sil 30 rfl rfl (fun _ hF => .fieldAddr lay33 rfl rfl (lk 4 rfl rfl)) ?_
    refine S.qui 31 rfl rfl (fun _ => .loadP sz28 ag28 (lk 0 rfl rfl) rfl (.st rfl (flL_c (show flen _ = 1 from rfl) (flL_c (show flen _ = 1 from rfl) (flL_c (show flen _ = 1 from rfl) flL_nil))) .nil) (by first | rfl | omega) (ty_TCounter.fl a1.Counter) rfl) ?_
    refine S.sil 32 rfl rfl (fun _ hF => .fieldAddrC lay33 rfl rfl (lk 5 rfl rfl) rfl (flL_c (show flen _ = 1 from rfl) (flL_c (show flen _ = 1 from rfl) (flL_c (show flen _ = 1 from rfl) flL_nil)))) ?_
    refine S.sil 33 rfl rfl (fun _ hF => .loadC sz28 ag28 (lk 0 rfl rfl) (ty_TCounter.fl a2.Counter) rfl) ?_
    obtain ⟨r5, m5, h⟩ := h.bnd
    refine S.sil 34 rfl rfl (fun _ hF => .callQ ent56 cF (.c (lk 2 rfl rfl) (V.sub.refl _) (.c (lk 0 rfl rfl) (V.sub.refl _) .nil)) (C_counter_Join m5)) ?_
    refine S.sil 29 rfl rfl (fun _ hF => .move (lk 0 rfl rfl)) ?_
    refine S.sil 35 rfl rfl (fun _ hF => .extract (lk 0 rfl rfl) rfl) ?_
    refine S.sil 36 rfl rfl (fun _ hF => .extract (lk 1 rfl rfl) rfl) ?_
    refine S.eff 6 rfl rfl (.nf (v2 := .ptr 3 [] 0) (H2 := [.cells (E_TField a1), .dead, .cells (.st [V.str (default : ByteArray), (V.int .i64) 0, (V.int .i64) 0, E_TCounter (default : TCounter), E_TLock (default : TLock), .nils]), .cells (E_TCounter (default : TCounter))]) (.alloc zv28) rfl rfl) trivial ?_
    refine S.effN rfl rfl (.nf (H2 := [.cells (E_TField a1), .dead, .cells (.st [V.str (default : ByteArray), (V.int .i64) 0, (V.int .i64) 0, E_TCounter (default : TCounter), E_TLock (default : TLock), .nils]), .cells (E_TCounter r5.1)]) (.storeP sz28 (lk 0 rfl rfl) (lk 2 rfl rfl) rfl (.refl _) rfl .nil (by first | rfl | omega) .nil (ty_TCounter.fl r5.1) (ty_TCounter.fl (default : TCounter)) rfl) rfl rfl) trivial ?_
    refine S.sil 7 rfl rfl (fun _ hF => .assign (lk 1 rfl rfl)) ?_
    refine S.nil ?_
    refine thenQ_n ?_
    refine AWp.wk (Wk.freeze 3 rfl rfl (.same (lk 0 rfl rfl) (.cons (lk 1 rfl rfl) rfl (.ptr .nil (by first | rfl | omega)) (.same (lk 11 rfl rfl) (.same (lk 12 rfl rfl) (.same (lk 13 rfl rfl) (.same (lk 14 rfl rfl) .nil)))))) (.refl _)) ?_
    refine AWp.seq ?_
    refine AWp.seq ?_
    refine W.reg [0, 1] rfl ?_
    refine S.sil 37 rfl rfl (fun _ hF => .move (lk 0 rfl rfl)) ?_
    refine S.sil 38 rfl rfl (fun _ hF => .neq (lk 0 rfl rfl) cI) ?_
    refine S.nil ?_
    refine thenQ_n ?_
    refine AWp.condM (lk 0 rfl rfl) h (fun c2 h => ?_) (fun c2 h => ?_)
    · skip
      refine AWp.seq ?_
      refine W.reg [0, 1, 2, 3] rfl ?_
      obtain ⟨v6, ev6, h⟩ := h.nam
      refine S.sil 39 rfl rfl (fun _ hF => .nv (.vs (v := .st [V.str (default : ByteArray), (V.int .i64) 0, (V.int .i64) 0, E_TCounter (default : TCounter), E_TLock (default : TLock), .nils]) (v2 := E_TField (⟨(default : ByteArray), 0, 0, (default : TCounter), (default : TLock), ([] : List THold)⟩ : TField)) (.buildStW lay33 zv33 rfl .nil) rfl (.st (.cons (.refl _) (.cons (.refl _) (.cons (.refl _) (.cons (.refl _) (.cons (.refl _) (.cons (.nils_no _) .nil)))))))) (congrArg E_TField ev6.symm)) ?_
      refine S.sil 40 rfl rfl (fun _ hF => .move (lk 3 rfl rfl)) ?_
      refine S.effN rfl rfl (.nf (H2 := [.cells (E_TField a1), .dead, .cells (E_TField v6), .dead]) (.storeP sz33 (lk 7 rfl rfl) (lk 1 rfl rfl) rfl (.refl _) rfl .nil (by first | rfl | omega) .nil (ty_TField.fl v6) (fl_st (flL_c (show flen _ = 1 from rfl) (flL_c (show flen _ = 1 from rfl) (flL_c (show flen _ = 1 from rfl) (flL_c (ty_TCounter.fl (default : TCounter)) (flL_c (ty_TLock.fl (default : TLock)) (flL_c (show flen _ = 1 from rfl) flL_nil))))))) rfl) rfl rfl) trivial ?_
      refine S.sil 5 rfl rfl (fun _ hF => .assign (lk 0 rfl rfl)) ?_
      refine S.nil ?_
      refine thenQ_n ?_
      refine AWp.ret ?_
      refine thenQ_r ?_
      refine endF_wk (Wk.freeze 2 rfl rfl (.same (lk 0 rfl rfl) (.same (lk 0 rfl rfl) (.cons (lk 8 rfl rfl) rfl (.ptr .nil (by first | rfl | omega)) .nil))) (.refl _)) ?_
      obtain rfl := h.ret
      exact endFN rfl (Wk.selS [] .nil rfl (SelE.leaf (lk 2 rfl rfl) rfl (.refl _) (fun m => (lt_cptr (ty_TField.lt _ _))) (SelE.leaf (lk 0 rfl rfl) rfl (.refl _) (fun m => ((TyOk.int .i64).lt _ _)) .nil)) .nil) (.cons (.cellC sz33 ag33 (lk 0 rfl rfl) (ty_TField.fl _) rfl) (.cons (.tmp (lk 1 rfl rfl) rfl) .nil)) rfl rfl rfl
    · skip
      refine AWp.skip ?_
      refine thenQ_n ?_
      refine AWp.seq ?_
      refine W.reg [0, 1, 2, 3, 4, 5, 6, 7, 8, 9] rfl ?_
      refine S.sil 42 rfl rfl (fun _ hF => .fieldAddr lay33 rfl rfl (lk 7 rfl rfl)) ?_
      refine S.qui 43 rfl rfl (fun _ => .loadP sz31 ag31 (lk 0 rfl rfl) rfl (.st rfl (flL_c (show flen _ = 1 from rfl) (flL_c (show flen _ = 1 from rfl) (flL_c (show flen _ = 1 from rfl) (flL_c (ty_TCounter.fl a1.Counter) (flL_c (ty_TLock.fl a1.Lock) flL_nil))))) .nil) (by first | rfl | omega) rfl rfl) ?_
      refine S.sil 44 rfl rfl (fun _ hF => .fieldAddrC lay33 rfl rfl (lk 8 rfl rfl) rfl (flL_c (show flen _ = 1 from rfl) (flL_c (show flen _ = 1 from rfl) (flL_c (show flen _ = 1 from rfl) (flL_c (ty_TCounter.fl a2.Counter) (flL_c (ty_TLock.fl a2.Lock) flL_nil)))))) ?_
      refine S.sil 45 rfl rfl (fun _ hF => .loadC sz31 ag31 (lk 0 rfl rfl) rfl rfl) ?_
      obtain ⟨r7, m7, h⟩ := h.bnd
      refine S.sil 46 rfl rfl (fun _ hF => .callQ ent57 cF (.c (lk 2 rfl rfl) (V.sub.refl _) (.c (lk 0 rfl rfl) (V.sub.refl _) .nil)) (C_hold_Join m7)) ?_
      refine S.sil 41 rfl rfl (fun _ hF => .move (lk 0 rfl rfl)) ?_
      refine S.sil 47 rfl rfl (fun _ hF => .extract (lk 0 rfl rfl) rfl) ?_
      refine S.sil 48 rfl rfl (fun _ hF => .extract (lk 1 rfl rfl) rfl) ?_
      refine S.sil 8 rfl rfl (fun _ hF => .assign (lk 1 rfl rfl)) ?_
      refine S.sil 7 rfl rfl (fun _ hF => .assign (lk 1 rfl rfl)) ?_
      refine S.nil ?_
      refine thenQ_n ?_
      refine AWp.prune (.eq (lk 0 rfl rfl) rfl (.eq (lk 1 rfl rfl) rfl (.eq (lk 13 rfl rfl) rfl (.eq (lk 14 rfl rfl) rfl (.eq (lk 15 rfl rfl) rfl (.eq (lk 16 rfl rfl) rfl (.eq (lk 17 rfl rfl) rfl .nil))))))) ?_
      refine AWp.seq ?_
      refine AWp.seq ?_
      refine W.reg [0, 1] rfl ?_
      refine S.sil 49 rfl rfl (fun _ hF => .move (lk 0 rfl rfl)) ?_
      refine S.sil 50 rfl rfl (fun _ hF => .neq (lk 0 rfl rfl) cI) ?_
      refine S.nil ?_
      refine thenQ_n ?_
      refine AWp.condM (lk 0 rfl rfl) h (fun c3 h => ?_) (fun c3 h => ?_)
      · skip
        refine AWp.seq ?_
        refine W.reg [0, 1, 2, 3] rfl ?_
        obtain ⟨v8, ev8, h⟩ := h.nam
        refine S.sil 51 rfl rfl (fun _ hF => .nv (.vs (v := .st [V.str (default : ByteArray), (V.int .i64) 0, (V.int .i64) 0, E_TCounter (default : TCounter), E_TLock (default : TLock), .nils]) (v2 := E_TField (⟨(default : ByteArray), 0, 0, (default : TCounter), (default : TLock), ([] : List THold)⟩ : TField)) (.buildStW lay33 zv33 rfl .nil) rfl (.st (.cons (.refl _) (.cons (.refl _) (.cons (.refl _) (.cons (.refl _) (.cons (.refl _) (.cons (.nils_no _) .nil)))))))) (congrArg E_TField ev8.symm)) ?_
        refine S.sil 52 rfl rfl (fun _ hF => .move (lk 3 rfl rfl)) ?_
        refine S.effN rfl rfl (.nf (H2 := [.cells (E_TField a1), .dead, .cells (E_TField v8), .dead]) (.storeP sz33 (lk 8 rfl rfl) (lk 1 rfl rfl) rfl (.refl _) rfl .nil (by first | rfl | omega) .nil (ty_TField.fl v8) (fl_st (flL_c (show flen _ = 1 from rfl) (flL_c (show flen _ = 1 from rfl) (flL_c (show flen _ = 1 from rfl) (flL_c (ty_TCounter.fl (default : TCounter)) (flL_c (ty_TLock.fl (default : TLock)) (flL_c (show flen _ = 1 from rfl) flL_nil))))))) rfl) rfl rfl) trivial ?_
        refine S.sil 5 rfl rfl (fun _ hF => .assign (lk 0 rfl rfl)) ?_
        refine S.nil ?_
        refine thenQ_n ?_
        refine AWp.ret ?_
        refine thenQ_r ?_
        refine endF_wk (Wk.freeze 2 rfl rfl (.same (lk 0 rfl rfl) (.same (lk 0 rfl rfl) (.cons (lk 9 rfl rfl) rfl (.ptr .nil (by first | rfl | omega)) .nil))) (.refl _)) ?_
        obtain rfl := h.ret
        exact endFN rfl (Wk.selS [] .nil rfl (SelE.leaf (lk 2 rfl rfl) rfl (.refl _) (fun m => (lt_cptr (ty_TField.lt _ _))) (SelE.leaf (lk 0 rfl rfl) rfl (.refl _) (fun m => ((TyOk.int .i64).lt _ _)) .nil)) .nil) (.cons (.cellC sz33 ag33 (lk 0 rfl rfl) (ty_TField.fl _) rfl) (.cons (.tmp (lk 1 rfl rfl) rfl) .nil)) rfl rfl rfl
      · skip
        refine AWp.skip ?_
        refine thenQ_n ?_
        refine AWp.seq ?_
        refine W.regD [0, 1, 2, 3, 4, 5, 6, 7, 8, 9, 10, 11, 12] mixed ?_
        refine S.sil 53 rfl rfl (fun _ hF => .loadC sz28 ag28 (lk 4 rfl rfl) (ty_TCounter.fl r5.1) rfl) ?_
        refine S.sil 54 rfl rfl (fun _ hF => .move (lk 4 rfl rfl)) ?_
        refine S.sil 55 rfl rfl (fun _ hF => .fieldAddr lay33 rfl rfl (lk 10 rfl rfl)) ?_
        refine S.qui 56 rfl rfl (fun _ => .loadP sz30 ag30 (lk 0 rfl rfl) rfl (.st rfl (flL_c (show flen _ = 1 from rfl) (flL_c (show flen _ = 1 from rfl) (flL_c (show flen _ = 1 from rfl) (flL_c (ty_TCounter.fl a1.Counter) flL_nil)))) .nil) (by first | rfl | omega) (ty_TLock.fl a1.Lock) rfl) ?_
        refine S.sil 57 rfl rfl (fun _ hF => .fieldAddrC lay33 rfl rfl (lk 11 rfl rfl) rfl (flL_c (show flen _ = 1 from rfl) (flL_c (show flen _ = 1 from rfl) (flL_c (show flen _ = 1 from rfl) (flL_c (ty_TCounter.fl a2.Counter) flL_nil))))) ?_
        refine S.sil 58 rfl rfl (fun _ hF => .loadC sz30 ag30 (lk 0 rfl rfl) (ty_TLock.fl a2.Lock) rfl) ?_
        obtain ⟨r9, m9, h⟩ := h.bnd
        refine S.sil 59 rfl rfl (fun _ hF => .callQ ent58 cF (.c (lk 2 rfl rfl) (V.sub.refl _) (.c (lk 0 rfl rfl) (V.sub.refl _) .nil)) (C_lock_Join m9)) ?_
        refine S.sil 60 rfl rfl (fun _ hF => .fieldAddr lay33 rfl rfl (lk 15 rfl rfl)) ?_
        obtain ⟨v10, ev10, h⟩ := h.nam
        refine S.effN rfl rfl (.storeP sz28 (lk 0 rfl rfl) (lk 7 rfl rfl) rfl (.refl _) rfl (.st rfl (flL_c (show flen _ = 1 from rfl) (flL_c (show flen _ = 1 from rfl) (flL_c (show flen _ = 1 from rfl) flL_nil))) .nil) (by first | rfl | omega) (.st rfl .nil rfl) (ty_TCounter.fl r5.1) (ty_TCounter.fl a1.Counter) (congrArg (fun z => ([AObj.cells (E_TField z), .dead, .cells (.st [V.str (default : ByteArray), (V.int .i64) 0, (V.int .i64) 0, E_TCounter (default : TCounter), E_TLock (default : TLock), .nils]), .dead] : List AObj)) ev10.symm)) trivial ?_
        refine S.sil 61 rfl rfl (fun _ hF => .fieldAddr lay33 rfl rfl (lk 16 rfl rfl)) ?_
        obtain ⟨v11, ev11, h⟩ := h.nam
        refine S.effN rfl rfl (.storeP sz31 (lk 0 rfl rfl) (lk 7 rfl rfl) rfl (.refl _) rfl (.st rfl (flL_c (show flen _ = 1 from rfl) (flL_c (show flen _ = 1 from rfl) (flL_c (show flen _ = 1 from rfl) (flL_c (ty_TCounter.fl v10.Counter) (flL_c (ty_TLock.fl v10.Lock) flL_nil))))) .nil) (by first | rfl | omega) (.st rfl .nil rfl) rfl rfl (congrArg (fun z => ([AObj.cells (E_TField z), .dead, .cells (.st [V.str (default : ByteArray), (V.int .i64) 0, (V.int .i64) 0, E_TCounter (default : TCounter), E_TLock (default : TLock), .nils]), .dead] : List AObj)) ev11.symm)) trivial ?_
        refine S.sil 62 rfl rfl (fun _ hF => .fieldAddr lay33 rfl rfl (lk 17 rfl rfl)) ?_
        obtain ⟨v12, ev12, h⟩ := h.nam
        refine S.effN rfl rfl (.storeP sz30 (lk 0 rfl rfl) (lk 3 rfl rfl) rfl (.refl _) rfl (.st rfl (flL_c (show flen _ = 1 from rfl) (flL_c (show flen _ = 1 from rfl) (flL_c (show flen _ = 1 from rfl) (flL_c (ty_TCounter.fl v11.Counter) flL_nil)))) .nil) (by first | rfl | omega) (.st rfl .nil rfl) (ty_TLock.fl r9) (ty_TLock.fl v11.Lock) (congrArg (fun z => ([AObj.cells (E_TField z), .dead, .cells (.st [V.str (default : ByteArray), (V.int .i64) 0, (V.int .i64) 0, E_TCounter (default : TCounter), E_TLock (default : TLock), .nils]), .dead] : List AObj)) ev12.symm)) trivial ?_
        refine S.nilD (by kernel_rfl) ?_
        refine thenQ_n ?_
        refine AWp.prune (.eq (lk 15 rfl rfl) rfl (.eq (lk 16 rfl rfl) rfl (.eq (lk 18 rfl rfl) rfl .nil))) ?_
        refine AWp.seq ?_
        refine W.reg [0, 1, 2] rfl ?_
        refine S.qui 63 rfl rfl (fun _ => .loadP sz33 ag33 (lk 2 rfl rfl) rfl .nil (by first | rfl | omega) (ty_TField.fl v12) rfl) ?_
        refine S.effN rfl rfl (.nf (H2 := [.cells (E_TField v12), .dead, .cells (E_TField v12), .dead]) (.storeP sz33 (lk 2 rfl rfl) (lk 0 rfl rfl) rfl (.refl _) rfl .nil (by first | rfl | omega) .nil (ty_TField.fl v12) (fl_st (flL_c (show flen _ = 1 from rfl) (flL_c (show flen _ = 1 from rfl) (flL_c (show flen _ = 1 from rfl) (flL_c (ty_TCounter.fl (default : TCounter)) (flL_c (ty_TLock.fl (default : TLock)) (flL_c (show flen _ = 1 from rfl) flL_nil))))))) rfl) rfl rfl) trivial ?_
        refine S.sil 5 rfl rfl (fun _ hF => .assign cI) ?_
        refine S.nil ?_
        refine thenQ_n ?_
        refine AWp.ret ?_
        refine endF_wk (Wk.freeze 2 rfl rfl (.same (lk 0 rfl rfl) (.same (lk 0 rfl rfl) (.cons (lk 3 rfl rfl) rfl (.ptr .nil (by first | rfl | omega)) .nil))) (.refl _)) ?_
        obtain rfl := h.ret
        exact endFN rfl (Wk.selS [] .nil rfl (SelE.leaf (lk 2 rfl rfl) rfl (.refl _) (fun m => (lt_cptr (ty_TField.lt _ _))) (SelE.leaf (lk 0 rfl rfl) rfl (.refl _) (fun m => ((TyOk.int .i64).lt _ _)) .nil)) .nil) (.cons (.cellC sz33 ag33 (lk 0 rfl rfl) (ty_TField.fl _) rfl) (.cons (.tmp (lk 1 rfl rfl) rfl) .nil)) rfl rfl rfl
end Go.Av
namespace Go.Av
set_option linter.unusedSectionVars false
open Go.Proofs
set_option linter.unusedVariables false
set_option linter.unusedSimpArgs false
set_option maxHeartbeats 4000000
set_option maxRecDepth 10000
theorem C_usufructref07_Same {a1 : TField} {a2 : TField} {r : Bool} (h : usufructref07_Same a1 a2 = some r) : PureC Pg 15 [E_TField a1, E_TField a2] (V.bool r) := by
  refine PureC.ofF (CallSpec.of_bodyF 66 0 fn15 rfl rfl rfl (Nat.le_of_ble_eq_true rfl) ?_) (ltL_c (ty_TField.lt _ _) (ltL_c (ty_TField.lt _ _) ltL_nil)) (TyOk.bool.lt _ _)
  replace h := Ok.of h
  unfold usufructref07_Same at h
  refine AWp.seq ?_
  refine W.reg [0, 1, 2] rfl ?_
  refine S.eff 2 rfl rfl (.nf (v2 := .ptr 0 [] 0) (H2 := [.cells (E_TField a1)]) (.box (lk 0 rfl rfl) rfl) rfl rfl) trivial ?_
  refine S.eff 3 rfl rfl (.nf (v2 := .ptr 1 [] 0) (H2 := [.cells (E_TField a1), .cells (E_TField a2)]) (.box (lk 2 rfl rfl) rfl) rfl rfl) trivial ?_
  refine S.sil 4 rfl rfl (fun _ hF => .assign cB) ?_
  refine S.nil ?_
  refine thenQ_n ?_
  refine AWp.wk (Wk.freeze 0 rfl rfl (.same (lk 0 rfl rfl) (.same (lk 1 rfl rfl) (.cons (lk 2 rfl rfl) rfl (.ptr .nil (by first | rfl | omega)) .nil))) (.refl _)) ?_
  refine AWp.wk (Wk.freeze 1 rfl rfl (.same (lk 0 rfl rfl) (.cons (lk 1 rfl rfl) rfl (.ptr .nil (by first | rfl | omega)) (.same (lk 2 rfl rfl) .nil))) (.refl _)) ?_
  refine AWp.seq ?_
  refine AWp.seq ?_
  refine W.reg [0, 1, 2, 3, 4, 5, 6, 7, 8, 9, 10, 11, 12, 13, 14, 15, 16, 17, 18, 19, 20, 21, 22, 23, 24, 25, 26, 27, 28, 29, 30, 31, 32, 33, 34, 35, 36, 37, 38, 39, 40, 41] rfl ?_
  refine S.sil 6 rfl rfl (fun _ hF => .fieldAddrC lay33 rfl rfl (lk 2 rfl rfl) rfl flL_nil) ?_
  refine S.sil 7 rfl rfl (fun _ hF => .loadC sz9 ag9 (lk 0 rfl rfl) rfl rfl) ?_
  refine S.sil 8 rfl rfl (fun _ hF => .fieldAddrC lay33 rfl rfl (lk 3 rfl rfl) rfl flL_nil) ?_
  refine S.sil 9 rfl rfl (fun _ hF => .loadC sz9 ag9 (lk 0 rfl rfl) rfl rfl) ?_
  refine S.sil 10 rfl rfl (fun _ hF => .neqS (lk 2 rfl rfl) (lk 0 rfl rfl)) ?_
  refine S.sil 11 rfl rfl (fun _ hF => .move (lk 0 rfl rfl)) ?_
  refine S.gsil 12 5 11 false rfl rfl rfl (lk 0 rfl rfl) (fun hB _ hF => .fieldAddrC lay33 rfl rfl (lk 8 rfl rfl) rfl (flL_c (show flen _ = 1 from rfl) flL_nil)) ?_
  refine S.gsil 13 5 11 false rfl rfl rfl (lk 1 rfl rfl) (fun hB _ hF => .loadC sz3 ag3 (ifT hB (lk 0 rfl rfl)) rfl rfl) ?_
  refine S.gsil 14 5 11 false rfl rfl rfl (lk 2 rfl rfl) (fun hB _ hF => .fieldAddrC lay33 rfl rfl (lk 9 rfl rfl) rfl (flL_c (show flen _ = 1 from rfl) flL_nil)) ?_
  refine S.gsil 15 5 11 false rfl rfl rfl (lk 3 rfl rfl) (fun hB _ hF => .loadC sz3 ag3 (ifT hB (lk 0 rfl rfl)) rfl rfl) ?_
  refine S.gsil 16 5 11 false rfl rfl rfl (lk 4 rfl rfl) (fun hB _ hF => .neq (ifT hB (lk 2 rfl rfl)) (ifT hB (lk 0 rfl rfl))) ?_
  refine S.sil 17 rfl rfl (fun _ hF => .pickOr (lk 5 rfl rfl) cB (fun h => ifT h (lk 0 rfl rfl))) ?_
  refine S.sil 18 rfl rfl (fun _ hF => .move (lk 0 rfl rfl)) ?_
  refine S.gsil 19 12 18 false rfl rfl rfl (lk 0 rfl rfl) (fun hB _ hF => .fieldAddrC lay33 rfl rfl (lk 15 rfl rfl) rfl (flL_c (show flen _ = 1 from rfl) (flL_c (show flen _ = 1 from rfl) flL_nil))) ?_
  refine S.gsil 20 12 18 false rfl rfl rfl (lk 1 rfl rfl) (fun hB _ hF => .loadC sz3 ag3 (ifT hB (lk 0 rfl rfl)) rfl rfl) ?_
  refine S.gsil 21 12 18 false rfl rfl rfl (lk 2 rfl rfl) (fun hB _ hF => .fieldAddrC lay33 rfl rfl (lk 16 rfl rfl) rfl (flL_c (show flen _ = 1 from rfl) (flL_c (show flen _ = 1 from rfl) flL_nil))) ?_
  refine S.gsil 22 12 18 false rfl rfl rfl (lk 3 rfl rfl) (fun hB _ hF => .loadC sz3 ag3 (ifT hB (lk 0 rfl rfl)) rfl rfl) ?_
  refine S.gsil 23 12 18 false rfl rfl rfl (lk 4 rfl rfl) (fun hB _ hF => .neq (ifT hB (lk 2 rfl rfl)) (ifT hB (lk 0 rfl rfl))) ?_
  obtain ⟨v3, ev3, h⟩ := h.nam
  refine S.sil 24 rfl rfl (fun _ hF => .nv (.pickOr (lk 5 rfl rfl) cB (fun h => ifT h (lk 0 rfl rfl))) (congrArg V.bool ev3.symm)) ?_
  refine S.sil 25 rfl rfl (fun _ hF => .move (lk 0 rfl rfl)) ?_
  refine S.gsil 26 19 25 false rfl rfl rfl (lk 0 rfl rfl) (fun hB _ hF => .fieldAddrC lay33 rfl rfl (lk 22 rfl rfl) rfl (flL_c (show flen _ = 1 from rfl) (flL_c (show flen _ = 1 from rfl) (flL_c (show flen _ = 1 from rfl) flL_nil)))) ?_
  refine S.gsil 27 19 25 false rfl rfl rfl (lk 1 rfl rfl) (fun hB _ hF => .loadC sz28 ag28 (ifT hB (lk 0 rfl rfl)) (ty_TCounter.fl a1.Counter) rfl) ?_
  refine S.gsil 28 19 25 false rfl rfl rfl (lk 2 rfl rfl) (fun hB _ hF => .fieldAddrC lay33 rfl rfl (lk 23 rfl rfl) rfl (flL_c (show flen _ = 1 from rfl) (flL_c (show flen _ = 1 from rfl) (flL_c (show flen _ = 1 from rfl) flL_nil)))) ?_
  refine S.gsil 29 19 25 false rfl rfl rfl (lk 3 rfl rfl) (fun hB _ hF => .loadC sz28 ag28 (ifT hB (lk 0 rfl rfl)) (ty_TCounter.fl a2.Counter) rfl) ?_
  refine S.gsil 30 19 25 false rfl rfl rfl (lk 4 rfl rfl) (fun hB _ hF => .neqT eqt28 eqk_TCounter shk_TCounter (ifT hB (lk 2 rfl rfl)) (ifT hB (lk 0 rfl rfl)) rfl rfl) ?_
  refine S.sil 31 rfl rfl (fun _ hF => .pickOr (lk 5 rfl rfl) cB (fun h => ifT h (lk 0 rfl rfl))) ?_
  refine S.sil 32 rfl rfl (fun _ hF => .move (lk 0 rfl rfl)) ?_
  refine S.gsil 33 26 32 false rfl rfl rfl (lk 0 rfl rfl) (fun hB _ hF => .fieldAddrC lay33 rfl rfl (lk 29 rfl rfl) rfl (flL_c (show flen _ = 1 from rfl) (flL_c (show flen _ = 1 from rfl) (flL_c (show flen _ = 1 from rfl) (flL_c (ty_TCounter.fl a1.Counter) flL_nil))))) ?_
  refine S.gsil 34 26 32 false rfl rfl rfl (lk 1 rfl rfl) (fun hB _ hF => .loadC sz30 ag30 (ifT hB (lk 0 rfl rfl)) (ty_TLock.fl a1.Lock) rfl) ?_
  refine S.gsil 35 26 32 false rfl rfl rfl (lk 2 rfl rfl) (fun hB _ hF => .fieldAddrC lay33 rfl rfl (lk 30 rfl rfl) rfl (flL_c (show flen _ = 1 from rfl) (flL_c (show flen _ = 1 from rfl) (flL_c (show flen _ = 1 from rfl) (flL_c (ty_TCounter.fl a2.Counter) flL_nil))))) ?_
  refine S.gsil 36 26 32 false rfl rfl rfl (lk 3 rfl rfl) (fun hB _ hF => .loadC sz30 ag30 (ifT hB (lk 0 rfl rfl)) (ty_TLock.fl a2.Lock) rfl) ?_
  refine S.gsil 37 26 32 false rfl rfl rfl (lk 4 rfl rfl) (fun hB _ hF => .neqT eqt30 eqk_TLock shk_TLock (ifT hB (lk 2 rfl rfl)) (ifT hB (lk 0 rfl rfl)) rfl rfl) ?_
  obtain ⟨v4, ev4, h⟩ := h.nam
  refine S.sil 38 rfl rfl (fun _ hF => .nv (.pickOr (lk 5 rfl rfl) cB (fun h => ifT h (lk 0 rfl rfl))) (congrArg V.bool ev4.symm)) ?_
  refine S.sil 39 rfl rfl (fun _ hF => .move (lk 0 rfl rfl)) ?_
  refine S.gsil 40 33 39 false rfl rfl rfl (lk 0 rfl rfl) (fun hB _ hF => .fieldAddrC lay33 rfl rfl (lk 36 rfl rfl) rfl (flL_c (show flen _ = 1 from rfl) (flL_c (show flen _ = 1 from rfl) (flL_c (show flen _ = 1 from rfl) (flL_c (ty_TCounter.fl a1.Counter) (flL_c (ty_TLock.fl a1.Lock) flL_nil)))))) ?_
  refine S.gsil 41 33 39 false rfl rfl rfl (lk 1 rfl rfl) (fun hB _ hF => .loadC sz31 ag31 (ifT hB (lk 0 rfl rfl)) rfl rfl) ?_
  refine S.gsil 42 33 39 false rfl rfl rfl (lk 2 rfl rfl) (fun hB _ hF => .lenT sli31 (ifT hB (lk 0 rfl rfl)) (vsub rfl (.refl _))) ?_
  refine S.gsil 43 33 39 false rfl rfl rfl (lk 3 rfl rfl) (fun hB _ hF => .fieldAddrC lay33 rfl rfl (lk 38 rfl rfl) rfl (flL_c (show flen _ = 1 from rfl) (flL_c (show flen _ = 1 from rfl) (flL_c (show flen _ = 1 from rfl) (flL_c (ty_TCounter.fl a2.Counter) (flL_c (ty_TLock.fl a2.Lock) flL_nil)))))) ?_
  refine S.gsil 44 33 39 false rfl rfl rfl (lk 4 rfl rfl) (fun hB _ hF => .loadC sz31 ag31 (ifT hB (lk 0 rfl rfl)) rfl rfl) ?_
  refine S.gsil 45 33 39 false rfl rfl rfl (lk 5 rfl rfl) (fun hB _ hF => .lenT sli31 (ifT hB (lk 0 rfl rfl)) (vsub rfl (.refl _))) ?_
  refine S.gsil 46 33 39 false rfl rfl rfl (lk 6 rfl rfl) (fun hB _ hF => .neq (ifT hB (lk 3 rfl rfl)) (ifT hB (lk 0 rfl rfl))) ?_
  refine S.sil 47 rfl rfl (fun _ hF => .pickOr (lk 7 rfl rfl) cB (fun h => ifT h (lk 0 rfl rfl))) ?_
  refine S.nil ?_
  refine thenQ_n ?_
  refine AWp.prune (.eq (lk 0 rfl rfl) rfl (.eq (lk 42 rfl rfl) rfl (.eq (lk 43 rfl rfl) rfl (.eq (lk 44 rfl rfl) rfl .nil)))) ?_
  refine AWp.condM (lk 0 rfl rfl) h (fun c1 h => ?_) (fun c1 h => ?_)
  · skip
    refine AWp.seq ?_
    refine W.reg [0] rfl ?_
    refine S.sil 4 rfl rfl (fun _ hF => .assign cB) ?_
    refine S.nil ?_
    refine thenQ_n ?_
    refine AWp.ret ?_
    refine thenQ_r ?_
    obtain rfl := h.ret
    exact endF1 rfl (Wk.selS [] .nil rfl (SelE.leaf (lk 0 rfl rfl) rfl (.refl _) (fun m => (TyOk.bool.lt _ _)) .nil) .nil) (.tmp (lk 0 rfl rfl) rfl) rfl rfl
  · skip
    refine AWp.skip ?_
    refine thenQ_n ?_
    refine AWp.seq ?_
    refine AWp.seq ?_
    refine W.reg [0] rfl ?_
    refine S.sil 5 rfl rfl (fun _ hF => .assign cI) ?_
    refine S.nil ?_
    refine thenQ_n ?_
    refine AWp.cutL (fun x7 => ⟨[(4, V.bool false)], []⟩) nc_then h (fun q5 hq5 h => ?_) (fun x7 h => ?_)
    · refine AWp.block ?_
      refine AWp.loopT (fun s6 => ⟨[(5, (V.int .i64) s6), (4, V.bool false), (3, .cptr (E_TField a2)), (2, .cptr (E_TField a1))], []⟩) hq5 (Wk.selS [] (by decide) rfl (SelE.leaf (lk 0 rfl rfl) rfl (.refl _) (fun m => ((TyOk.int .i64).lt _ _)) (SelE.leaf (lk 2 rfl rfl) rfl (.refl _) (fun m => (TyOk.bool.lt _ _)) (SelE.leaf (lk 3 rfl rfl) rfl (.refl _) (fun m => (lt_cptr (ty_TField.lt _ _))) (SelE.leaf (lk 4 rfl rfl) rfl (.refl _) (fun m => (lt_cptr (ty_TField.lt _ _))) .nil)))) .nil) (fun _ s6 h5 => ?_)
      rw [usufructref07_Same_L1] at h5
      refine AWp.seq ?_
      refine AWp.seq ?_
      refine W.reg [0, 1, 2, 3, 4] rfl ?_
      refine S.sil 48 rfl rfl (fun _ hF => .move (lk 0 rfl rfl)) ?_
      refine S.sil 49 rfl rfl (fun _ hF => .fieldAddrC lay33 rfl rfl (lk 4 rfl rfl) rfl (flL_c (show flen _ = 1 from rfl) (flL_c (show flen _ = 1 from rfl) (flL_c (show flen _ = 1 from rfl) (flL_c (ty_TCounter.fl a1.Counter) (flL_c (ty_TLock.fl a1.Lock) flL_nil)))))) ?_
      refine S.sil 50 rfl rfl (fun _ hF => .loadC sz31 ag31 (lk 0 rfl rfl) rfl rfl) ?_
      refine S.sil 51 rfl rfl (fun _ hF => .lenT sli31 (lk 0 rfl rfl) (vsub rfl (.refl _))) ?_
      refine S.sil 52 rfl rfl (fun _ hF => .lss (lk 3 rfl rfl) (lk 0 rfl rfl)) ?_
      refine S.nil ?_
      refine thenQ_n ?_
      refine AWp.condM (lk 0 rfl rfl) h5 (fun c2 h5 => ?_) (fun c2 h5 => ?_)
      · skip
        refine AWp.skip ?_
        refine thenQ_n ?_
        refine AWp.seq ?_
        refine AWp.block ?_
        refine AWp.seq ?_
        refine W.regD [0, 1, 2, 3, 4, 5, 6, 7, 8, 9, 10] mixed ?_
        refine S.sil 55 rfl rfl (fun _ hF => .fieldAddrC lay33 rfl rfl (lk 8 rfl rfl) rfl (flL_c (show flen _ = 1 from rfl) (flL_c (show flen _ = 1 from rfl) (flL_c (show flen _ = 1 from rfl) (flL_c (ty_TCounter.fl a1.Counter) (flL_c (ty_TLock.fl a1.Lock) flL_nil)))))) ?_
        refine S.sil 56 rfl rfl (fun _ hF => .loadC sz31 ag31 (lk 0 rfl rfl) rfl rfl) ?_
        refine S.sil 57 rfl rfl (fun _ hF => .move (lk 7 rfl rfl)) ?_
        obtain ⟨j8, m8, h5⟩ := h5.bnd
        refine S.sil 58 rfl rfl (fun _ hF => .ixS sli31 (lk 1 rfl rfl) (lk 0 rfl rfl) m8) ?_
        obtain ⟨v9, ev9, h5⟩ := h5.nam
        refine S.sil 59 rfl rfl (fun _ hF => .nv (.loadC sz66 ag66 (lk 0 rfl rfl) (ty_THold.fl (a1.Holds.getD j8 default)) rfl) (congrArg E_THold ev9.symm)) ?_
        refine S.sil 60 rfl rfl (fun _ hF => .fieldAddrC lay33 rfl rfl (lk 12 rfl rfl) rfl (flL_c (show flen _ = 1 from rfl) (flL_c (show flen _ = 1 from rfl) (flL_c (show flen _ = 1 from rfl) (flL_c (ty_TCounter.fl a2.Counter) (flL_c (ty_TLock.fl a2.Lock) flL_nil)))))) ?_
        refine S.sil 61 rfl rfl (fun _ hF => .loadC sz31 ag31 (lk 0 rfl rfl) rfl rfl) ?_
        refine S.sil 62 rfl rfl (fun _ hF => .move (lk 12 rfl rfl)) ?_
        obtain ⟨j10, m10, h5⟩ := h5.bnd
        refine S.sil 63 rfl rfl (fun _ hF => .ixS sli31 (lk 1 rfl rfl) (lk 0 rfl rfl) m10) ?_
        obtain ⟨v11, ev11, h5⟩ := h5.nam
        refine S.sil 64 rfl rfl (fun _ hF => .nv (.loadC sz66 ag66 (lk 0 rfl rfl) (ty_THold.fl (a2.Holds.getD j10 default)) rfl) (congrArg E_THold ev11.symm)) ?_
        refine S.sil 65 rfl rfl (fun _ hF => .neqT eqt66 eqk_THold shk_THold (lk 5 rfl rfl) (lk 0 rfl rfl) rfl rfl) ?_
        refine S.nilD (by kernel_rfl) ?_
        refine thenQ_n ?_
        refine AWp.condM (lk 0 rfl rfl) h5 (fun c3 h5 => ?_) (fun c3 h5 => ?_)
        · skip
          refine AWp.seq ?_
          refine W.reg [0] rfl ?_
          refine S.sil 4 rfl rfl (fun _ hF => .assign cB) ?_
          refine S.nil ?_
          refine thenQ_n ?_
          refine AWp.ret ?_
          refine blockQ_r ?_
          refine thenQ_r ?_
          refine thenQ_r ?_
          refine blockQ_r ?_
          refine thenQ_r ?_
          refine thenQ_r ?_
          have h := Ok.inrq h h5.ret
          obtain rfl := h.ret
          exact endF1 rfl (Wk.selS [] .nil rfl (SelE.leaf (lk 0 rfl rfl) rfl (.refl _) (fun m => (TyOk.bool.lt _ _)) .nil) .nil) (.tmp (lk 0 rfl rfl) rfl) rfl rfl
        · skip
          refine AWp.skip ?_
          refine blockQ_n ?_
          refine thenQ_n ?_
          refine W.reg [0, 1, 2] rfl ?_
          refine S.sil 53 rfl rfl (fun _ hF => .move (lk 16 rfl rfl)) ?_
          refine S.sil 54 rfl rfl (fun _ hF => .add (lk 0 rfl rfl) cI) ?_
          refine S.sil 5 rfl rfl (fun _ hF => .assign (lk 0 rfl rfl)) ?_
          refine S.nil ?_
          refine thenQ_n ?_
          exact ⟨_, h5.ret, (Wk.selS [] (by decide) rfl (SelE.leaf (lk 0 rfl rfl) rfl (.refl _) (fun m => ((TyOk.int .i64).lt _ _)) (SelE.leaf (lk 20 rfl rfl) rfl (.refl _) (fun m => (TyOk.bool.lt _ _)) (SelE.leaf (lk 21 rfl rfl) rfl (.refl _) (fun m => (lt_cptr (ty_TField.lt _ _))) (SelE.leaf (lk 22 rfl rfl) rfl (.refl _) (fun m => (lt_cptr (ty_TField.lt _ _))) .nil)))) .nil)⟩
      · skip
        refine AWp.exit ?_
        refine thenQ_x ?_
        refine thenQ_x ?_
        refine blockQ_x ?_
        refine thenQ_n ?_
        exact ⟨_, h5.ret, (Wk.selS [] (by decide) rfl (SelE.leaf (lk 6 rfl rfl) rfl (.refl _) (fun m => (TyOk.bool.lt _ _)) .nil) .nil)⟩
    · skip
      refine thenQ_n ?_
      refine AWp.seq ?_
      refine W.reg [0] rfl ?_
      refine S.sil 4 rfl rfl (fun _ hF => .assign cB) ?_
      refine S.nil ?_
      refine thenQ_n ?_
      refine AWp.ret ?_
      obtain rfl := h.ret
      exact endF1 rfl (Wk.selS [] .nil rfl (SelE.leaf (lk 0 rfl rfl) rfl (.refl _) (fun m => (TyOk.bool.lt _ _)) .nil) .nil) (.tmp (lk 0 rfl rfl) rfl) rfl rfl
theorem C_usufructlaw10_WireJoins {a1 : Int} {a2 : TField} {a3 : TField} {r : Bool} (h : usufructlaw10_WireJoins a1 a2 a3 = some r) : PureC Pg 9 [(V.int .i64) a1, E_TField a2, E_TField a3] (V.bool r) := by
  refine PureC.ofF (CallSpec.of_bodyF 152 0 fn9 rfl rfl rfl (Nat.le_of_ble_eq_true rfl) ?_) (ltL_c ((TyOk.int .i64).lt _ _) (ltL_c (ty_TField.lt _ _) (ltL_c (ty_TField.lt _ _) ltL_nil))) (TyOk.bool.lt _ _)
  replace h := Ok.of h
  unfold usufructlaw10_WireJoins at h
  refine AWp.seq ?_
  refine W.reg [0, 1, 2] rfl ?_
  refine S.eff 4 rfl rfl (.nf (v2 := .ptr 0 [] 0) (H2 := [.cells (E_TField a2)]) (.box (lk 1 rfl rfl) rfl) rfl rfl) trivial ?_
  refine S.eff 5 rfl rfl (.nf (v2 := .ptr 1 [] 0) (H2 := [.cells (E_TField a2), .cells (E_TField a3)]) (.box (lk 3 rfl rfl) rfl) rfl rfl) trivial ?_
  refine S.sil 6 rfl rfl (fun _ hF => .assign cB) ?_
  refine S.nil ?_
  refine thenQ_n ?_
  refine AWp.wk (Wk.freeze 0 rfl rfl (.same (lk 0 rfl rfl) (.same (lk 1 rfl rfl) (.cons (lk 2 rfl rfl) rfl (.ptr .nil (by first | rfl | omega)) (.same (lk 3 rfl rfl) .nil)))) (.refl _)) ?_
  refine AWp.wk (Wk.freeze 1 rfl rfl (.same (lk 0 rfl rfl) (.cons (lk 1 rfl rfl) rfl (.ptr .nil (by first | rfl | omega)) (.same (lk 2 rfl rfl) (.same (lk 3 rfl rfl) .nil)))) (.refl _)) ?_
  refine AWp.seq ?_
  refine AWp.seq ?_
  refine W.reg [0, 1, 2, 3, 4, 5, 6, 7, 8, 9, 10, 11, 12, 13, 14, 15, 16, 17, 18, 19, 20, 21, 22] rfl ?_
  refine S.sil 23 rfl rfl (fun _ hF => .loadC sz33 ag33 (lk 2 rfl rfl) (ty_TField.fl a2) rfl) ?_
  refine S.sil 24 rfl rfl (fun _ hF => .loadC sz33 ag33 (lk 2 rfl rfl) (ty_TField.fl a3) rfl) ?_
  refine S.sil 25 rfl rfl (fun _ hF => .buildSliceW sli49 zv33 rfl rfl (by decide) (.cons (lk 1 rfl rfl) rfl (.refl _) (ty_TField.fl a2) (.cons (lk 0 rfl rfl) rfl (.refl _) (ty_TField.fl a3) .nil))) ?_
  obtain ⟨r4, m4, h⟩ := h.bnd
  refine S.sil 26 rfl rfl (fun _ hF => .callQ ent11 cF (.c (lk 0 rfl rfl) (vsub rfl (.forget _ _ _)) .nil) (C_usufructlaw07_Few m4)) ?_
  refine S.sil 27 rfl rfl (fun _ hF => .not (lk 0 rfl rfl)) ?_
  refine S.sil 28 rfl rfl (fun _ hF => .move (lk 0 rfl rfl)) ?_
  refine S.gsil 29 5 28 false rfl rfl rfl (lk 0 rfl rfl) (fun hB _ hF => .move (lk 9 rfl rfl)) ?_
  refine S.gsil 30 5 28 false rfl rfl rfl (lk 1 rfl rfl) (fun hB _ hF => .lss (ifT hB (lk 0 rfl rfl)) cI) ?_
  refine S.sil 31 rfl rfl (fun _ hF => .pickOr (lk 2 rfl rfl) cB (fun h => ifT h (lk 0 rfl rfl))) ?_
  refine S.sil 32 rfl rfl (fun _ hF => .move (lk 0 rfl rfl)) ?_
  refine S.gsil 33 9 32 false rfl rfl rfl (lk 0 rfl rfl) (fun hB _ hF => .move (lk 13 rfl rfl)) ?_
  refine S.gsil 34 9 32 false rfl rfl rfl (lk 1 rfl rfl) (fun hB _ hF => .gtr (ifT hB (lk 0 rfl rfl)) cI) ?_
  refine S.sil 35 rfl rfl (fun _ hF => .pickOr (lk 2 rfl rfl) cB (fun h => ifT h (lk 0 rfl rfl))) ?_
  refine S.sil 36 rfl rfl (fun _ hF => .move (lk 0 rfl rfl)) ?_
  refine S.gsil 37 13 36 false rfl rfl rfl (lk 0 rfl rfl) (fun hB _ hF => .loadC sz33 ag33 (lk 16 rfl rfl) (ty_TField.fl a2) rfl) ?_
  obtain ⟨r5, m5, h⟩ := h.bnd
  refine S.gsil 38 13 36 false rfl rfl rfl (lk 1 rfl rfl) (fun hB _ hF => .callQ ent14 cF (.c (ifT hB (lk 0 rfl rfl)) (V.sub.refl _) .nil) (C_usufructref07_Right (gd_get m5 hB))) ?_
  refine S.gsil 39 13 36 false rfl rfl rfl (lk 2 rfl rfl) (fun hB _ hF => .not (ifT hB (lk 0 rfl rfl))) ?_
  refine S.sil 40 rfl rfl (fun _ hF => .pickOr (lk 3 rfl rfl) cB (fun h => ifT h (lk 0 rfl rfl))) ?_
  refine S.sil 41 rfl rfl (fun _ hF => .move (lk 0 rfl rfl)) ?_
  refine S.gsil 42 18 41 false rfl rfl rfl (lk 0 rfl rfl) (fun hB _ hF => .loadC sz33 ag33 (lk 20 rfl rfl) (ty_TField.fl a3) rfl) ?_
  obtain ⟨r6, m6, h⟩ := h.bnd
  refine S.gsil 43 18 41 false rfl rfl rfl (lk 1 rfl rfl) (fun hB _ hF => .callQ ent14 cF (.c (ifT hB (lk 0 rfl rfl)) (V.sub.refl _) .nil) (C_usufructref07_Right (gd_get m6 hB))) ?_
  refine S.gsil 44 18 41 false rfl rfl rfl (lk 2 rfl rfl) (fun hB _ hF => .not (ifT hB (lk 0 rfl rfl))) ?_
  obtain ⟨v7, ev7, h⟩ := h.nam
  refine S.sil 45 rfl rfl (fun _ hF => .nv (.pickOr (lk 3 rfl rfl) cB (fun h => ifT h (lk 0 rfl rfl))) (congrArg V.bool ev7.symm)) ?_
  refine S.nil ?_
  refine thenQ_n ?_
  refine AWp.prune (.eq (lk 0 rfl rfl) rfl (.eq (lk 23 rfl rfl) rfl (.eq (lk 24 rfl rfl) rfl (.eq (lk 25 rfl rfl) rfl (.eq (lk 26 rfl rfl) rfl .nil))))) ?_
  refine AWp.condM (lk 0 rfl rfl) h (fun c1 h => ?_) (fun c1 h => ?_)
  · skip
    refine AWp.seq ?_
    refine W.reg [0, 1] rfl ?_
    obtain ⟨r8, m8, h⟩ := h.bnd
    refine S.sil 46 rfl rfl (fun _ hF => .callQ ent12 cF .nil (C_usufructlaw10_awake m8)) ?_
    refine S.sil 6 rfl rfl (fun _ hF => .assign (lk 0 rfl rfl)) ?_
    refine S.nil ?_
    refine thenQ_n ?_
    refine AWp.ret ?_
    refine thenQ_r ?_
    obtain rfl := h.ret
    exact endF1 rfl (Wk.selS [] .nil rfl (SelE.leaf (lk 0 rfl rfl) rfl (.refl _) (fun m => (TyOk.bool.lt _ _)) .nil) .nil) (.tmp (lk 0 rfl rfl) rfl) rfl rfl
  · skip
    refine AWp.skip ?_
    refine thenQ_n ?_
    refine AWp.seq ?_
    refine W.reg [0, 1, 2, 3, 4, 5, 6, 7, 8] rfl ?_
    refine S.sil 48 rfl rfl (fun _ hF => .loadC sz33 ag33 (lk 3 rfl rfl) (ty_TField.fl a2) rfl) ?_
    refine S.sil 49 rfl rfl (fun _ hF => .loadC sz33 ag33 (lk 3 rfl rfl) (ty_TField.fl a3) rfl) ?_
    obtain ⟨r9, m9, h⟩ := h.bnd
    refine S.sil 50 rfl rfl (fun _ hF => .callQ ent26 cF (.c (lk 1 rfl rfl) (V.sub.refl _) (.c (lk 0 rfl rfl) (V.sub.refl _) .nil)) (C_usufructref07_Join m9)) ?_
    refine S.sil 47 rfl rfl (fun _ hF => .move (lk 0 rfl rfl)) ?_
    refine S.sil 51 rfl rfl (fun _ hF => .extract (lk 0 rfl rfl) rfl) ?_
    refine S.sil 52 rfl rfl (fun _ hF => .extract (lk 1 rfl rfl) rfl) ?_
    refine S.eff 7 rfl rfl (.nf (v2 := .ptr 2 [] 0) (H2 := [.dead, .dead, .cells (.st [V.str (default : ByteArray), (V.int .i64) 0, (V.int .i64) 0, E_TCounter (default : TCounter), E_TLock (default : TLock), .nils])]) (.alloc zv33) rfl rfl) trivial ?_
    refine S.effN rfl rfl (.nf (H2 := [.dead, .dead, .cells (E_TField r9.1)]) (.storeP sz33 (lk 0 rfl rfl) (lk 2 rfl rfl) rfl (.refl _) rfl .nil (by first | rfl | omega) .nil (ty_TField.fl r9.1) (fl_st (flL_c (show flen _ = 1 from rfl) (flL_c (show flen _ = 1 from rfl) (flL_c (show flen _ = 1 from rfl) (flL_c (ty_TCounter.fl (default : TCounter)) (flL_c (ty_TLock.fl (default : TLock)) (flL_c (show flen _ = 1 from rfl) flL_nil))))))) rfl) rfl rfl) trivial ?_
    refine S.sil 8 rfl rfl (fun _ hF => .assign (lk 1 rfl rfl)) ?_
    refine S.nil ?_
    refine thenQ_n ?_
    refine AWp.wk (Wk.freeze 2 rfl rfl (.same (lk 0 rfl rfl) (.cons (lk 1 rfl rfl) rfl (.ptr .nil (by first | rfl | omega)) (.same (lk 9 rfl rfl) (.same (lk 10 rfl rfl) (.same (lk 11 rfl rfl) (.same (lk 12 rfl rfl) .nil)))))) (.refl _)) ?_
    refine AWp.seq ?_
    refine AWp.seq ?_
    refine W.reg [0, 1, 2, 3, 4, 5, 6] rfl ?_
    refine S.sil 53 rfl rfl (fun _ hF => .move (lk 0 rfl rfl)) ?_
    refine S.sil 54 rfl rfl (fun _ hF => .neq (lk 0 rfl rfl) cI) ?_
    refine S.sil 55 rfl rfl (fun _ hF => .move (lk 0 rfl rfl)) ?_
    refine S.gsil 56 2 55 false rfl rfl rfl (lk 0 rfl rfl) (fun hB _ hF => .loadC sz33 ag33 (lk 4 rfl rfl) (ty_TField.fl r9.1) rfl) ?_
    obtain ⟨r10, m10, h⟩ := h.bnd
    refine S.gsil 57 2 55 false rfl rfl rfl (lk 1 rfl rfl) (fun hB _ hF => .callQ ent14 cF (.c (ifT hB (lk 0 rfl rfl)) (V.sub.refl _) .nil) (C_usufructref07_Right (gd_get m10 hB))) ?_
    refine S.gsil 58 2 55 false rfl rfl rfl (lk 2 rfl rfl) (fun hB _ hF => .not (ifT hB (lk 0 rfl rfl))) ?_
    refine S.sil 59 rfl rfl (fun _ hF => .pickOr (lk 3 rfl rfl) cB (fun h => ifT h (lk 0 rfl rfl))) ?_
    refine S.nil ?_
    refine thenQ_n ?_
    refine AWp.condM (lk 0 rfl rfl) h (fun c2 h => ?_) (fun c2 h => ?_)
    · skip
      refine AWp.seq ?_
      refine W.reg [0, 1] rfl ?_
      obtain ⟨r11, m11, h⟩ := h.bnd
      refine S.sil 60 rfl rfl (fun _ hF => .callQ ent12 cF .nil (C_usufructlaw10_awake m11)) ?_
      refine S.sil 6 rfl rfl (fun _ hF => .assign (lk 0 rfl rfl)) ?_
      refine S.nil ?_
      refine thenQ_n ?_
      refine AWp.prune (.eq (lk 0 rfl rfl) rfl (.eq (lk 10 rfl rfl) rfl (.eq (lk 12 rfl rfl) rfl (.eq (lk 13 rfl rfl) rfl (.eq (lk 14 rfl rfl) rfl .nil))))) ?_
      refine AWp.ret ?_
      refine thenQ_r ?_
      obtain rfl := h.ret
      exact endF1 rfl (Wk.selS [] .nil rfl (SelE.leaf (lk 0 rfl rfl) rfl (.refl _) (fun m => (TyOk.bool.lt _ _)) .nil) .nil) (.tmp (lk 0 rfl rfl) rfl) rfl rfl
    · skip
      refine AWp.skip ?_
      refine thenQ_n ?_
      refine AWp.seq ?_
      refine W.reg [0, 1, 2, 3, 4, 5, 6, 7, 8, 9, 10, 11] rfl ?_
      refine S.sil 62 rfl rfl (fun _ hF => .move (lk 12 rfl rfl)) ?_
      refine S.sil 63 rfl rfl (fun _ hF => .loadC sz33 ag33 (lk 12 rfl rfl) (ty_TField.fl a2) rfl) ?_
      obtain ⟨r12, m12, h⟩ := h.bnd
      refine S.sil 64 rfl rfl (fun _ hF => .callQ ent13 cF (.c (lk 1 rfl rfl) (V.sub.refl _) (.c (lk 0 rfl rfl) (V.sub.refl _) .nil)) (C_wire_Down m12)) ?_
      refine S.sil 61 rfl rfl (fun _ hF => .move (lk 0 rfl rfl)) ?_
      refine S.sil 65 rfl rfl (fun _ hF => .extract (lk 0 rfl rfl) rfl) ?_
      refine S.sil 66 rfl rfl (fun _ hF => .extract (lk 1 rfl rfl) rfl) ?_
      refine S.sil 67 rfl rfl (fun _ hF => .extract (lk 2 rfl rfl) rfl) ?_
      refine S.eff 9 rfl rfl (.nf (v2 := .ptr 3 [] 0) (H2 := [.dead, .dead, .dead, .cells (.st [V.str (default : ByteArray), (V.int .i64) 0, (V.int .i64) 0, E_TCounter (default : TCounter), E_TLock (default : TLock), .nils])]) (.alloc zv33) rfl rfl) trivial ?_
      refine S.eff 10 rfl rfl (.nf (v2 := .ptr 4 [] 0) (H2 := [.dead, .dead, .dead, .cells (.st [V.str (default : ByteArray), (V.int .i64) 0, (V.int .i64) 0, E_TCounter (default : TCounter), E_TLock (default : TLock), .nils]), .cells (.st [(V.int .i64) 0, .nils])]) (.alloc zv37) rfl rfl) trivial ?_
      refine S.effN rfl rfl (.nf (H2 := [.dead, .dead, .dead, .cells (E_TField r12.1), .cells (.st [(V.int .i64) 0, .nils])]) (.storeP sz33 (lk 1 rfl rfl) (lk 4 rfl rfl) rfl (.refl _) rfl .nil (by first | rfl | omega) .nil (ty_TField.fl r12.1) (fl_st (flL_c (show flen _ = 1 from rfl) (flL_c (show flen _ = 1 from rfl) (flL_c (show flen _ = 1 from rfl) (flL_c (ty_TCounter.fl (default : TCounter)) (flL_c (ty_TLock.fl (default : TLock)) (flL_c (show flen _ = 1 from rfl) flL_nil))))))) rfl) rfl rfl) trivial ?_
      refine S.effN rfl rfl (.nf (H2 := [.dead, .dead, .dead, .cells (E_TField r12.1), .cells (E_Twire_Residue r12.2.1)]) (.storeP sz37 (lk 0 rfl rfl) (lk 3 rfl rfl) rfl (.refl _) rfl .nil (by first | rfl | omega) .nil (ty_Twire_Residue.fl r12.2.1) (fl_st (flL_c (show flen _ = 1 from rfl) (flL_c (show flen _ = 1 from rfl) flL_nil))) rfl) rfl rfl) trivial ?_
      refine S.sil 11 rfl rfl (fun _ hF => .assign (lk 2 rfl rfl)) ?_
      refine S.nil ?_
      refine thenQ_n ?_
      refine AWp.wk (Wk.freeze 3 rfl rfl (.same (lk 0 rfl rfl) (.same (lk 1 rfl rfl) (.cons (lk 2 rfl rfl) rfl (.ptr .nil (by first | rfl | omega)) (.same (lk 18 rfl rfl) (.same (lk 19 rfl rfl) (.same (lk 20 rfl rfl) (.same (lk 22 rfl rfl) .nil))))))) (.refl _)) ?_
      refine AWp.wk (Wk.freeze 4 rfl rfl (.same (lk 0 rfl rfl) (.cons (lk 1 rfl rfl) rfl (.ptr .nil (by first | rfl | omega)) (.same (lk 2 rfl rfl) (.same (lk 3 rfl rfl) (.same (lk 4 rfl rfl) (.same (lk 5 rfl rfl) (.same (lk 6 rfl rfl) .nil))))))) (.refl _)) ?_
      refine AWp.seq ?_
      refine W.reg [0, 1, 2, 3, 4, 5, 6, 7, 8, 9, 10, 11] rfl ?_
      refine S.sil 69 rfl rfl (fun _ hF => .move (lk 6 rfl rfl)) ?_
      refine S.sil 70 rfl rfl (fun _ hF => .loadC sz33 ag33 (lk 6 rfl rfl) (ty_TField.fl a3) rfl) ?_
      obtain ⟨r13, m13, h⟩ := h.bnd
      refine S.sil 71 rfl rfl (fun _ hF => .callQ ent13 cF (.c (lk 1 rfl rfl) (V.sub.refl _) (.c (lk 0 rfl rfl) (V.sub.refl _) .nil)) (C_wire_Down m13)) ?_
      refine S.sil 68 rfl rfl (fun _ hF => .move (lk 0 rfl rfl)) ?_
      refine S.sil 72 rfl rfl (fun _ hF => .extract (lk 0 rfl rfl) rfl) ?_
      refine S.sil 73 rfl rfl (fun _ hF => .extract (lk 1 rfl rfl) rfl) ?_
      refine S.sil 74 rfl rfl (fun _ hF => .extract (lk 2 rfl rfl) rfl) ?_
      refine S.eff 12 rfl rfl (.nf (v2 := .ptr 5 [] 0) (H2 := [.dead, .dead, .dead, .dead, .dead, .cells (.st [V.str (default : ByteArray), (V.int .i64) 0, (V.int .i64) 0, E_TCounter (default : TCounter), E_TLock (default : TLock), .nils])]) (.alloc zv33) rfl rfl) trivial ?_
      refine S.eff 13 rfl rfl (.nf (v2 := .ptr 6 [] 0) (H2 := [.dead, .dead, .dead, .dead, .dead, .cells (.st [V.str (default : ByteArray), (V.int .i64) 0, (V.int .i64) 0, E_TCounter (default : TCounter), E_TLock (default : TLock), .nils]), .cells (.st [(V.int .i64) 0, .nils])]) (.alloc zv37) rfl rfl) trivial ?_
      refine S.effN rfl rfl (.nf (H2 := [.dead, .dead, .dead, .dead, .dead, .cells (E_TField r13.1), .cells (.st [(V.int .i64) 0, .nils])]) (.storeP sz33 (lk 1 rfl rfl) (lk 4 rfl rfl) rfl (.refl _) rfl .nil (by first | rfl | omega) .nil (ty_TField.fl r13.1) (fl_st (flL_c (show flen _ = 1 from rfl) (flL_c (show flen _ = 1 from rfl) (flL_c (show flen _ = 1 from rfl) (flL_c (ty_TCounter.fl (default : TCounter)) (flL_c (ty_TLock.fl (default : TLock)) (flL_c (show flen _ = 1 from rfl) flL_nil))))))) rfl) rfl rfl) trivial ?_
      refine S.effN rfl rfl (.nf (H2 := [.dead, .dead, .dead, .dead, .dead, .cells (E_TField r13.1), .cells (E_Twire_Residue r13.2.1)]) (.storeP sz37 (lk 0 rfl rfl) (lk 3 rfl rfl) rfl (.refl _) rfl .nil (by first | rfl | omega) .nil (ty_Twire_Residue.fl r13.2.1) (fl_st (flL_c (show flen _ = 1 from rfl) (flL_c (show flen _ = 1 from rfl) flL_nil))) rfl) rfl rfl) trivial ?_
      refine S.sil 14 rfl rfl (fun _ hF => .assign (lk 2 rfl rfl)) ?_
      refine S.nil ?_
      refine thenQ_n ?_
      refine AWp.wk (Wk.freeze 5 rfl rfl (.same (lk 0 rfl rfl) (.same (lk 1 rfl rfl) (.cons (lk 2 rfl rfl) rfl (.ptr .nil (by first | rfl | omega)) (.same (lk 10 rfl rfl) (.same (lk 11 rfl rfl) (.same (lk 12 rfl rfl) (.same (lk 13 rfl rfl) (.same (lk 14 rfl rfl) (.same (lk 16 rfl rfl) .nil))))))))) (.refl _)) ?_
      refine AWp.wk (Wk.freeze 6 rfl rfl (.same (lk 0 rfl rfl) (.cons (lk 1 rfl rfl) rfl (.ptr .nil (by first | rfl | omega)) (.same (lk 2 rfl rfl) (.same (lk 3 rfl rfl) (.same (lk 4 rfl rfl) (.same (lk 5 rfl rfl) (.same (lk 6 rfl rfl) (.same (lk 7 rfl rfl) (.same (lk 8 rfl rfl) .nil))))))))) (.refl _)) ?_
      refine AWp.seq ?_
      refine W.reg [0, 1, 2, 3, 4, 5, 6, 7, 8, 9, 10, 11] rfl ?_
      refine S.sil 76 rfl rfl (fun _ hF => .move (lk 8 rfl rfl)) ?_
      refine S.sil 77 rfl rfl (fun _ hF => .loadC sz33 ag33 (lk 7 rfl rfl) (ty_TField.fl r9.1) rfl) ?_
      obtain ⟨r14, m14, h⟩ := h.bnd
      refine S.sil 78 rfl rfl (fun _ hF => .callQ ent13 cF (.c (lk 1 rfl rfl) (V.sub.refl _) (.c (lk 0 rfl rfl) (V.sub.refl _) .nil)) (C_wire_Down m14)) ?_
      refine S.sil 75 rfl rfl (fun _ hF => .move (lk 0 rfl rfl)) ?_
      refine S.sil 79 rfl rfl (fun _ hF => .extract (lk 0 rfl rfl) rfl) ?_
      refine S.sil 80 rfl rfl (fun _ hF => .extract (lk 1 rfl rfl) rfl) ?_
      refine S.sil 81 rfl rfl (fun _ hF => .extract (lk 2 rfl rfl) rfl) ?_
      refine S.eff 15 rfl rfl (.nf (v2 := .ptr 7 [] 0) (H2 := [.dead, .dead, .dead, .dead, .dead, .dead, .dead, .cells (.st [V.str (default : ByteArray), (V.int .i64) 0, (V.int .i64) 0, E_TCounter (default : TCounter), E_TLock (default : TLock), .nils])]) (.alloc zv33) rfl rfl) trivial ?_
      refine S.eff 16 rfl rfl (.nf (v2 := .ptr 8 [] 0) (H2 := [.dead, .dead, .dead, .dead, .dead, .dead, .dead, .cells (.st [V.str (default : ByteArray), (V.int .i64) 0, (V.int .i64) 0, E_TCounter (default : TCounter), E_TLock (default : TLock), .nils]), .cells (.st [(V.int .i64) 0, .nils])]) (.alloc zv37) rfl rfl) trivial ?_
      refine S.effN rfl rfl (.nf (H2 := [.dead, .dead, .dead, .dead, .dead, .dead, .dead, .cells (E_TField r14.1), .cells (.st [(V.int .i64) 0, .nils])]) (.storeP sz33 (lk 1 rfl rfl) (lk 4 rfl rfl) rfl (.refl _) rfl .nil (by first | rfl | omega) .nil (ty_TField.fl r14.1) (fl_st (flL_c (show flen _ = 1 from rfl) (flL_c (show flen _ = 1 from rfl) (flL_c (show flen _ = 1 from rfl) (flL_c (ty_TCounter.fl (default : TCounter)) (flL_c (ty_TLock.fl (default : TLock)) (flL_c (show flen _ = 1 from rfl) flL_nil))))))) rfl) rfl rfl) trivial ?_
      refine S.effN rfl rfl (.nf (H2 := [.dead, .dead, .dead, .dead, .dead, .dead, .dead, .cells (E_TField r14.1), .cells (E_Twire_Residue r14.2.1)]) (.storeP sz37 (lk 0 rfl rfl) (lk 3 rfl rfl) rfl (.refl _) rfl .nil (by first | rfl | omega) .nil (ty_Twire_Residue.fl r14.2.1) (fl_st (flL_c (show flen _ = 1 from rfl) (flL_c (show flen _ = 1 from rfl) flL_nil))) rfl) rfl rfl) trivial ?_
      refine S.sil 17 rfl rfl (fun _ hF => .assign (lk 2 rfl rfl)) ?_
      refine S.nil ?_
      refine thenQ_n ?_
      refine AWp.wk (Wk.freeze 7 rfl rfl (.same (lk 0 rfl rfl) (.same (lk 1 rfl rfl) (.cons (lk 2 rfl rfl) rfl (.ptr .nil (by first | rfl | omega)) (.same (lk 10 rfl rfl) (.same (lk 11 rfl rfl) (.same (lk 12 rfl rfl) (.same (lk 13 rfl rfl) (.same (lk 14 rfl rfl) (.same (lk 15 rfl rfl) (.same (lk 17 rfl rfl) .nil)))))))))) (.refl _)) ?_
      refine AWp.wk (Wk.freeze 8 rfl rfl (.same (lk 0 rfl rfl) (.cons (lk 1 rfl rfl) rfl (.ptr .nil (by first | rfl | omega)) (.same (lk 2 rfl rfl) (.same (lk 3 rfl rfl) (.same (lk 4 rfl rfl) (.same (lk 5 rfl rfl) (.same (lk 6 rfl rfl) (.same (lk 7 rfl rfl) (.same (lk 8 rfl rfl) (.same (lk 9 rfl rfl) .nil)))))))))) (.refl _)) ?_
      refine AWp.seq ?_
      refine W.reg [0, 1, 2, 3, 4, 5, 6, 7, 8] rfl ?_
      refine S.sil 83 rfl rfl (fun _ hF => .loadC sz33 ag33 (lk 8 rfl rfl) (ty_TField.fl r12.1) rfl) ?_
      refine S.sil 84 rfl rfl (fun _ hF => .loadC sz33 ag33 (lk 6 rfl rfl) (ty_TField.fl r13.1) rfl) ?_
      obtain ⟨r15, m15, h⟩ := h.bnd
      refine S.sil 85 rfl rfl (fun _ hF => .callQ ent27 cF (.c (lk 1 rfl rfl) (V.sub.refl _) (.c (lk 0 rfl rfl) (V.sub.refl _) .nil)) (C_field_Join m15)) ?_
      refine S.sil 82 rfl rfl (fun _ hF => .move (lk 0 rfl rfl)) ?_
      refine S.sil 86 rfl rfl (fun _ hF => .extract (lk 0 rfl rfl) rfl) ?_
      refine S.sil 87 rfl rfl (fun _ hF => .extract (lk 1 rfl rfl) rfl) ?_
      refine S.eff 18 rfl rfl (.nf (v2 := .ptr 9 [] 0) (H2 := [.dead, .dead, .dead, .dead, .dead, .dead, .dead, .dead, .dead, .cells (.st [V.str (default : ByteArray), (V.int .i64) 0, (V.int .i64) 0, E_TCounter (default : TCounter), E_TLock (default : TLock), .nils])]) (.alloc zv33) rfl rfl) trivial ?_
      refine S.effN rfl rfl (.nf (H2 := [.dead, .dead, .dead, .dead, .dead, .dead, .dead, .dead, .dead, .cells (E_TField r15.1)]) (.storeP sz33 (lk 0 rfl rfl) (lk 2 rfl rfl) rfl (.refl _) rfl .nil (by first | rfl | omega) .nil (ty_TField.fl r15.1) (fl_st (flL_c (show flen _ = 1 from rfl) (flL_c (show flen _ = 1 from rfl) (flL_c (show flen _ = 1 from rfl) (flL_c (ty_TCounter.fl (default : TCounter)) (flL_c (ty_TLock.fl (default : TLock)) (flL_c (show flen _ = 1 from rfl) flL_nil))))))) rfl) rfl rfl) trivial ?_
      refine S.sil 19 rfl rfl (fun _ hF => .assign (lk 1 rfl rfl)) ?_
      refine S.nil ?_
      refine thenQ_n ?_
      refine AWp.wk (Wk.freeze 9 rfl rfl (.same (lk 0 rfl rfl) (.cons (lk 1 rfl rfl) rfl (.ptr .nil (by first | rfl | omega)) (.same (lk 8 rfl rfl) (.same (lk 9 rfl rfl) (.same (lk 10 rfl rfl) (.same (lk 11 rfl rfl) (.same (lk 12 rfl rfl) (.same (lk 14 rfl rfl) (.same (lk 15 rfl rfl) (.same (lk 17 rfl rfl) .nil)))))))))) (.refl _)) ?_
      refine AWp.seq ?_
      refine W.reg [0, 1, 2, 3, 4, 5, 6, 7, 8, 9] rfl ?_
      refine S.sil 89 rfl rfl (fun _ hF => .fieldAddrC lay37 rfl rfl (lk 8 rfl rfl) rfl (flL_c (show flen _ = 1 from rfl) flL_nil)) ?_
      refine S.sil 90 rfl rfl (fun _ hF => .loadC sz31 ag31 (lk 0 rfl rfl) rfl rfl) ?_
      refine S.sil 91 rfl rfl (fun _ hF => .fieldAddrC lay37 rfl rfl (lk 8 rfl rfl) rfl (flL_c (show flen _ = 1 from rfl) flL_nil)) ?_
      refine S.sil 92 rfl rfl (fun _ hF => .loadC sz31 ag31 (lk 0 rfl rfl) rfl rfl) ?_
      obtain ⟨r16, m16, h⟩ := h.bnd
      refine S.sil 93 rfl rfl (fun _ hF => .callQ ent28 cF (.c (lk 2 rfl rfl) (V.sub.refl _) (.c (lk 0 rfl rfl) (V.sub.refl _) .nil)) (C_usufructref06_Join m16)) ?_
      refine S.sil 88 rfl rfl (fun _ hF => .move (lk 0 rfl rfl)) ?_
      refine S.sil 94 rfl rfl (fun _ hF => .extract (lk 0 rfl rfl) rfl) ?_
      refine S.sil 95 rfl rfl (fun _ hF => .extract (lk 1 rfl rfl) rfl) ?_
      refine S.sil 20 rfl rfl (fun _ hF => .assign (lk 1 rfl rfl)) ?_
      refine S.sil 21 rfl rfl (fun _ hF => .assign (lk 1 rfl rfl)) ?_
      refine S.nil ?_
      refine thenQ_n ?_
      refine AWp.seq ?_
      refine AWp.seq ?_
      refine W.reg [0, 1, 2, 3, 4, 5, 6, 7, 8, 9, 10, 11, 12, 13, 14, 15, 16, 17, 18, 19, 20, 21, 22, 23, 24, 25, 26, 27, 28, 29, 30, 31, 32, 33, 34, 35, 36, 37, 38] rfl ?_
      refine S.sil 96 rfl rfl (fun _ hF => .move (lk 17 rfl rfl)) ?_
      refine S.sil 97 rfl rfl (fun _ hF => .neq (lk 0 rfl rfl) cI) ?_
      refine S.sil 98 rfl rfl (fun _ hF => .move (lk 0 rfl rfl)) ?_
      refine S.gsil 99 2 98 false rfl rfl rfl (lk 0 rfl rfl) (fun hB _ hF => .move (lk 18 rfl rfl)) ?_
      refine S.gsil 100 2 98 false rfl rfl rfl (lk 1 rfl rfl) (fun hB _ hF => .neq (ifT hB (lk 0 rfl rfl)) cI) ?_
      refine S.sil 101 rfl rfl (fun _ hF => .pickOr (lk 2 rfl rfl) cB (fun h => ifT h (lk 0 rfl rfl))) ?_
      refine S.sil 102 rfl rfl (fun _ hF => .move (lk 0 rfl rfl)) ?_
      refine S.gsil 103 6 102 false rfl rfl rfl (lk 0 rfl rfl) (fun hB _ hF => .move (lk 19 rfl rfl)) ?_
      refine S.gsil 104 6 102 false rfl rfl rfl (lk 1 rfl rfl) (fun hB _ hF => .neq (ifT hB (lk 0 rfl rfl)) cI) ?_
      obtain ⟨v17, ev17, h⟩ := h.nam
      refine S.sil 105 rfl rfl (fun _ hF => .nv (.pickOr (lk 2 rfl rfl) cB (fun h => ifT h (lk 0 rfl rfl))) (congrArg V.bool ev17.symm)) ?_
      refine S.sil 106 rfl rfl (fun _ hF => .move (lk 0 rfl rfl)) ?_
      refine S.gsil 107 10 106 false rfl rfl rfl (lk 0 rfl rfl) (fun hB _ hF => .move (lk 21 rfl rfl)) ?_
      refine S.gsil 108 10 106 false rfl rfl rfl (lk 1 rfl rfl) (fun hB _ hF => .neq (ifT hB (lk 0 rfl rfl)) cI) ?_
      refine S.sil 109 rfl rfl (fun _ hF => .pickOr (lk 2 rfl rfl) cB (fun h => ifT h (lk 0 rfl rfl))) ?_
      refine S.sil 110 rfl rfl (fun _ hF => .move (lk 0 rfl rfl)) ?_
      refine S.gsil 111 14 110 false rfl rfl rfl (lk 0 rfl rfl) (fun hB _ hF => .move (lk 15 rfl rfl)) ?_
      refine S.gsil 112 14 110 false rfl rfl rfl (lk 1 rfl rfl) (fun hB _ hF => .neq (ifT hB (lk 0 rfl rfl)) cI) ?_
      refine S.sil 113 rfl rfl (fun _ hF => .pickOr (lk 2 rfl rfl) cB (fun h => ifT h (lk 0 rfl rfl))) ?_
      refine S.sil 114 rfl rfl (fun _ hF => .move (lk 0 rfl rfl)) ?_
      refine S.gsil 115 18 114 false rfl rfl rfl (lk 0 rfl rfl) (fun hB _ hF => .loadC sz33 ag33 (lk 30 rfl rfl) (ty_TField.fl r15.1) rfl) ?_
      refine S.gsil 116 18 114 false rfl rfl rfl (lk 1 rfl rfl) (fun hB _ hF => .loadC sz33 ag33 (lk 34 rfl rfl) (ty_TField.fl r14.1) rfl) ?_
      obtain ⟨r18, m18, h⟩ := h.bnd
      refine S.gsil 117 18 114 false rfl rfl rfl (lk 2 rfl rfl) (fun hB _ hF => .callQ ent15 cF (.c (ifT hB (lk 1 rfl rfl)) (V.sub.refl _) (.c (ifT hB (lk 0 rfl rfl)) (V.sub.refl _) .nil)) (C_usufructref07_Same (gd_get m18 hB))) ?_
      refine S.gsil 118 18 114 false rfl rfl rfl (lk 3 rfl rfl) (fun hB _ hF => .not (ifT hB (lk 0 rfl rfl))) ?_
      refine S.sil 119 rfl rfl (fun _ hF => .pickOr (lk 4 rfl rfl) cB (fun h => ifT h (lk 0 rfl rfl))) ?_
      refine S.sil 120 rfl rfl (fun _ hF => .move (lk 0 rfl rfl)) ?_
      refine S.gsil 121 24 120 false rfl rfl rfl (lk 0 rfl rfl) (fun hB _ hF => .fieldAddrC lay37 rfl rfl (lk 38 rfl rfl) rfl flL_nil) ?_
      refine S.gsil 122 24 120 false rfl rfl rfl (lk 1 rfl rfl) (fun hB _ hF => .loadC sz3 ag3 (ifT hB (lk 0 rfl rfl)) rfl rfl) ?_
      refine S.gsil 123 24 120 false rfl rfl rfl (lk 2 rfl rfl) (fun hB _ hF => .fieldAddrC lay37 rfl rfl (lk 45 rfl rfl) rfl flL_nil) ?_
      refine S.gsil 124 24 120 false rfl rfl rfl (lk 3 rfl rfl) (fun hB _ hF => .loadC sz3 ag3 (ifT hB (lk 0 rfl rfl)) rfl rfl) ?_
      refine S.gsil 125 24 120 false rfl rfl rfl (lk 4 rfl rfl) (fun hB _ hF => .neq (ifT hB (lk 2 rfl rfl)) (ifT hB (lk 0 rfl rfl))) ?_
      obtain ⟨v19, ev19, h⟩ := h.nam
      refine S.sil 126 rfl rfl (fun _ hF => .nv (.pickOr (lk 5 rfl rfl) cB (fun h => ifT h (lk 0 rfl rfl))) (congrArg V.bool ev19.symm)) ?_
      refine S.sil 127 rfl rfl (fun _ hF => .move (lk 0 rfl rfl)) ?_
      refine S.gsil 128 31 127 false rfl rfl rfl (lk 0 rfl rfl) (fun hB _ hF => .move (lk 33 rfl rfl)) ?_
      refine S.gsil 129 31 127 false rfl rfl rfl (lk 1 rfl rfl) (fun hB _ hF => .lenT sli31 (ifT hB (lk 0 rfl rfl)) (vsub rfl (.refl _))) ?_
      refine S.gsil 130 31 127 false rfl rfl rfl (lk 2 rfl rfl) (fun hB _ hF => .fieldAddrC lay37 rfl rfl (lk 47 rfl rfl) rfl (flL_c (show flen _ = 1 from rfl) flL_nil)) ?_
      refine S.gsil 131 31 127 false rfl rfl rfl (lk 3 rfl rfl) (fun hB _ hF => .loadC sz31 ag31 (ifT hB (lk 0 rfl rfl)) rfl rfl) ?_
      refine S.gsil 132 31 127 false rfl rfl rfl (lk 4 rfl rfl) (fun hB _ hF => .lenT sli31 (ifT hB (lk 0 rfl rfl)) (vsub rfl (.refl _))) ?_
      refine S.gsil 133 31 127 false rfl rfl rfl (lk 5 rfl rfl) (fun hB _ hF => .neq (ifT hB (lk 3 rfl rfl)) (ifT hB (lk 0 rfl rfl))) ?_
      obtain ⟨v20, ev20, h⟩ := h.nam
      refine S.sil 134 rfl rfl (fun _ hF => .nv (.pickOr (lk 6 rfl rfl) cB (fun h => ifT h (lk 0 rfl rfl))) (congrArg V.bool ev20.symm)) ?_
      refine S.nil ?_
      refine thenQ_n ?_
      refine AWp.prune (.eq (lk 0 rfl rfl) rfl (.eq (lk 40 rfl rfl) rfl (.eq (lk 52 rfl rfl) rfl (.eq (lk 58 rfl rfl) rfl .nil)))) ?_
      refine AWp.condM (lk 0 rfl rfl) h (fun c3 h => ?_) (fun c3 h => ?_)
      · skip
        refine AWp.seq ?_
        refine W.reg [0] rfl ?_
        refine S.sil 6 rfl rfl (fun _ hF => .assign cB) ?_
        refine S.nil ?_
        refine thenQ_n ?_
        refine AWp.ret ?_
        refine thenQ_r ?_
        obtain rfl := h.ret
        exact endF1 rfl (Wk.selS [] .nil rfl (SelE.leaf (lk 0 rfl rfl) rfl (.refl _) (fun m => (TyOk.bool.lt _ _)) .nil) .nil) (.tmp (lk 0 rfl rfl) rfl) rfl rfl
      · skip
        refine AWp.skip ?_
        refine thenQ_n ?_
        refine AWp.seq ?_
        refine AWp.seq ?_
        refine W.reg [0, 1, 2] rfl ?_
        refine S.sil 135 rfl rfl (fun _ hF => .move (lk 1 rfl rfl)) ?_
        refine S.sil 136 rfl rfl (fun _ hF => .lenT sli31 (lk 0 rfl rfl) (vsub rfl (.refl _))) ?_
        refine S.sil 137 rfl rfl (fun _ hF => .move cI) ?_
        refine S.nil ?_
        refine thenQ_n ?_
        refine AWp.cutL (fun x23 => ⟨[(6, V.bool false)], []⟩) nc_then h (fun q21 hq21 h => ?_) (fun x23 h => ?_)
        · refine AWp.block ?_
          refine AWp.loopT (fun s22 => ⟨[(137, (V.int .i64) s22), (136, (V.int .i64) (r16.1.length : Int)), (20, .sl 5 .no (List.map E_THold r16.1)), (16, .cptr (E_Twire_Residue r14.2.1)), (6, V.bool false)], []⟩) hq21 (Wk.selS [] (by decide) rfl (SelE.leaf (lk 0 rfl rfl) rfl (.refl _) (fun m => ((TyOk.int .i64).lt _ _)) (SelE.leaf (lk 1 rfl rfl) rfl (.refl _) (fun m => ((TyOk.int .i64).lt _ _)) (SelE.leaf (lk 4 rfl rfl) rfl (.refl _) (fun m => (lt_sl rfl (ty_THold.ltm _ _))) (SelE.leaf (lk 5 rfl rfl) rfl (.refl _) (fun m => (lt_cptr (ty_Twire_Residue.lt _ _))) (SelE.leaf (lk 6 rfl rfl) rfl (.refl _) (fun m => (TyOk.bool.lt _ _)) .nil))))) .nil) (fun _ s22 h21 => ?_)
          rw [usufructlaw10_WireJoins_L1] at h21
          refine AWp.seq ?_
          refine W.reg [0] rfl ?_
          refine S.sil 138 rfl rfl (fun _ hF => .lss (lk 0 rfl rfl) (lk 1 rfl rfl)) ?_
          refine S.nil ?_
          refine thenQ_n ?_
          refine AWp.seq ?_
          refine AWp.condM (lk 0 rfl rfl) h21 (fun c4 h21 => ?_) (fun c4 h21 => ?_)
          · skip
            refine AWp.skip ?_
            refine thenQ_n ?_
            refine AWp.seq ?_
            refine AWp.block ?_
            refine AWp.seq ?_
            refine W.reg [0, 1] rfl ?_
            refine S.sil 139 rfl rfl (fun _ hF => .move (lk 1 rfl rfl)) ?_
            refine S.sil 22 rfl rfl (fun _ hF => .assign (lk 0 rfl rfl)) ?_
            refine S.nil ?_
            refine thenQ_n ?_
            refine AWp.seq ?_
            refine W.regD [0, 1, 2, 3, 4, 5, 6, 7, 8, 9] mixed ?_
            refine S.sil 140 rfl rfl (fun _ hF => .move (lk 5 rfl rfl)) ?_
            refine S.sil 141 rfl rfl (fun _ hF => .move (lk 1 rfl rfl)) ?_
            obtain ⟨j24, m24, h21⟩ := h21.bnd
            refine S.sil 142 rfl rfl (fun _ hF => .ixS sli31 (lk 1 rfl rfl) (lk 0 rfl rfl) m24) ?_
            obtain ⟨v25, ev25, h21⟩ := h21.nam
            refine S.sil 143 rfl rfl (fun _ hF => .nv (.loadC sz66 ag66 (lk 0 rfl rfl) (ty_THold.fl (r16.1.getD j24 default)) rfl) (congrArg E_THold ev25.symm)) ?_
            refine S.sil 144 rfl rfl (fun _ hF => .fieldAddrC lay37 rfl rfl (lk 10 rfl rfl) rfl (flL_c (show flen _ = 1 from rfl) flL_nil)) ?_
            refine S.sil 145 rfl rfl (fun _ hF => .loadC sz31 ag31 (lk 0 rfl rfl) rfl rfl) ?_
            refine S.sil 146 rfl rfl (fun _ hF => .move (lk 6 rfl rfl)) ?_
            obtain ⟨j26, m26, h21⟩ := h21.bnd
            refine S.sil 147 rfl rfl (fun _ hF => .ixS sli31 (lk 1 rfl rfl) (lk 0 rfl rfl) m26) ?_
            obtain ⟨v27, ev27, h21⟩ := h21.nam
            refine S.sil 148 rfl rfl (fun _ hF => .nv (.loadC sz66 ag66 (lk 0 rfl rfl) (ty_THold.fl (r14.2.1.Holds.getD j26 default)) rfl) (congrArg E_THold ev27.symm)) ?_
            refine S.sil 149 rfl rfl (fun _ hF => .neqT eqt66 eqk_THold shk_THold (lk 5 rfl rfl) (lk 0 rfl rfl) rfl rfl) ?_
            refine S.nilD (by kernel_rfl) ?_
            refine thenQ_n ?_
            refine AWp.condM (lk 0 rfl rfl) h21 (fun c5 h21 => ?_) (fun c5 h21 => ?_)
            · skip
              refine AWp.seq ?_
              refine W.reg [0] rfl ?_
              refine S.sil 6 rfl rfl (fun _ hF => .assign cB) ?_
              refine S.nil ?_
              refine thenQ_n ?_
              refine AWp.ret ?_
              refine blockQ_r ?_
              refine thenQ_r ?_
              refine thenQ_r ?_
              refine blockQ_r ?_
              refine thenQ_r ?_
              refine thenQ_r ?_
              have h := Ok.inrq h h21.ret
              obtain rfl := h.ret
              exact endF1 rfl (Wk.selS [] .nil rfl (SelE.leaf (lk 0 rfl rfl) rfl (.refl _) (fun m => (TyOk.bool.lt _ _)) .nil) .nil) (.tmp (lk 0 rfl rfl) rfl) rfl rfl
            · skip
              refine AWp.skip ?_
              refine blockQ_n ?_
              refine thenQ_n ?_
              refine W.reg [0, 1] rfl ?_
              refine S.sil 150 rfl rfl (fun _ hF => .add (lk 13 rfl rfl) cI) ?_
              refine S.sil 137 rfl rfl (fun _ hF => .move (lk 0 rfl rfl)) ?_
              refine S.nil ?_
              refine thenQ_n ?_
              exact ⟨_, h21.ret, (Wk.selS [] (by decide) rfl (SelE.leaf (lk 0 rfl rfl) rfl (.refl _) (fun m => ((TyOk.int .i64).lt _ _)) (SelE.leaf (lk 16 rfl rfl) rfl (.refl _) (fun m => ((TyOk.int .i64).lt _ _)) (SelE.leaf (lk 17 rfl rfl) rfl (.refl _) (fun m => (lt_sl rfl (ty_THold.ltm _ _))) (SelE.leaf (lk 18 rfl rfl) rfl (.refl _) (fun m => (lt_cptr (ty_Twire_Residue.lt _ _))) (SelE.leaf (lk 19 rfl rfl) rfl (.refl _) (fun m => (TyOk.bool.lt _ _)) .nil))))) .nil)⟩
          · skip
            refine AWp.exit ?_
            refine thenQ_x ?_
            refine thenQ_x ?_
            refine blockQ_x ?_
            refine thenQ_n ?_
            exact ⟨_, h21.ret, (Wk.selS [] (by decide) rfl (SelE.leaf (lk 5 rfl rfl) rfl (.refl _) (fun m => (TyOk.bool.lt _ _)) .nil) .nil)⟩
        · skip
          refine thenQ_n ?_
          refine AWp.seq ?_
          refine W.reg [0, 1] rfl ?_
          obtain ⟨r28, m28, h⟩ := h.bnd
          refine S.sil 151 rfl rfl (fun _ hF => .callQ ent12 cF .nil (C_usufructlaw10_awake m28)) ?_
          refine S.sil 6 rfl rfl (fun _ hF => .assign (lk 0 rfl rfl)) ?_
          refine S.nil ?_
          refine thenQ_n ?_
          refine AWp.ret ?_
          obtain rfl := h.ret
          exact endF1 rfl (Wk.selS [] .nil rfl (SelE.leaf (lk 0 rfl rfl) rfl (.refl _) (fun m => (TyOk.bool.lt _ _)) .nil) .nil) (.tmp (lk 0 rfl rfl) rfl) rfl rfl
end Go.Av
