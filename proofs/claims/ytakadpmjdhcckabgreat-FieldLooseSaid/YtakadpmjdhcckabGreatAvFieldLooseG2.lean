/- Each function tells what its mirror tells. -/
import Derived.Test.YtakadpmjdhcckabGreatAvFieldLooseG1
import Derived.Test.YtakadpmjdhcckabGreatProg
import Derived.KernelRfl
namespace Go.Av
set_option linter.unusedSectionVars false
open Go.Proofs
set_option linter.unusedVariables false
set_option linter.unusedSimpArgs false
set_option maxHeartbeats 4000000
set_option maxRecDepth 10000
theorem C_rights_Give {a1 : TRights} {a2 : Int} {a3 : Int} {r : TRights × Int} (h : rights_Give a1 a2 a3 = some r) : PureC Pg 149 [E_TRights a1, (V.int .i64) a2, (V.int .i64) a3] (.tup [E_TRights r.1, (V.int .i64) r.2]) := by
  refine PureC.ofF (CallSpec.of_bodyF 25 0 fn149 rfl rfl rfl (Nat.le_of_ble_eq_true rfl) ?_) (ltL_c (ty_TRights.lt _ _) (ltL_c ((TyOk.int .i64).lt _ _) (ltL_c ((TyOk.int .i64).lt _ _) ltL_nil))) (lt_tup (ltL_c (ty_TRights.lt _ _) (ltL_c ((TyOk.int .i64).lt _ _) ltL_nil)))
  replace h := Ok.of h
  unfold rights_Give at h
  refine AWp.seq ?_
  refine W.reg [0, 1, 2] rfl ?_
  refine S.eff 3 rfl rfl (.nf (v2 := .ptr 0 [] 0) (H2 := [.cells (E_TRights a1)]) (.box (lk 0 rfl rfl) rfl) rfl rfl) trivial ?_
  refine S.eff 6 rfl rfl (.nf (v2 := .ptr 1 [] 0) (H2 := [.cells (E_TRights a1), .cells (E_TRights (default : TRights))]) (.alloc zv35) rfl rfl) trivial ?_
  refine S.sil 7 rfl rfl (fun _ hF => .assign cI) ?_
  refine S.nil ?_
  refine thenQ_n ?_
  refine AWp.seq ?_
  refine W.reg [0, 1, 2, 3, 4, 5, 6, 7, 8, 9, 10] rfl ?_
  refine S.sil 11 rfl rfl (fun _ hF => .fieldAddr lay35 rfl rfl (lk 2 rfl rfl)) ?_
  refine S.qui 12 rfl rfl (fun _ => .loadP sz32 ag32 (lk 0 rfl rfl) rfl (.st rfl flL_nil .nil) (by first | rfl | omega) (ty_A16_i64.fl a1.Given) rfl) ?_
  refine S.sil 13 rfl rfl (fun _ hF => .move (lk 6 rfl rfl)) ?_
  refine S.sil 14 rfl rfl (fun _ hF => .move (lk 8 rfl rfl)) ?_
  obtain ⟨r4, m4, h⟩ := h.bnd
  refine S.sil 15 rfl rfl (fun _ hF => .callQ ent206 cF (.c (lk 2 rfl rfl) (V.sub.refl _) (.c (lk 1 rfl rfl) (V.sub.refl _) (.c (lk 0 rfl rfl) (V.sub.refl _) .nil))) (C_vec_Grow m4)) ?_
  refine S.sil 10 rfl rfl (fun _ hF => .move (lk 0 rfl rfl)) ?_
  refine S.sil 16 rfl rfl (fun _ hF => .extract (lk 0 rfl rfl) rfl) ?_
  refine S.sil 17 rfl rfl (fun _ hF => .extract (lk 1 rfl rfl) rfl) ?_
  refine S.eff 8 rfl rfl (.nf (v2 := .ptr 2 [] 0) (H2 := [.cells (E_TRights a1), .cells (E_TRights (default : TRights)), .cells (E_A16_i64 (default : Vector Int 16))]) (.alloc zv32) rfl rfl) trivial ?_
  refine S.effN rfl rfl (.nf (H2 := [.cells (E_TRights a1), .cells (E_TRights (default : TRights)), .cells (E_A16_i64 r4.1)]) (.storeP sz32 (lk 0 rfl rfl) (lk 2 rfl rfl) rfl (.refl _) rfl .nil (by first | rfl | omega) .nil (ty_A16_i64.fl r4.1) (ty_A16_i64.fl (default : Vector Int 16)) rfl) rfl rfl) trivial ?_
  refine S.sil 9 rfl rfl (fun _ hF => .assign (lk 1 rfl rfl)) ?_
  refine S.nil ?_
  refine thenQ_n ?_
  refine AWp.wk (Wk.freeze 2 rfl rfl (.same (lk 0 rfl rfl) (.cons (lk 1 rfl rfl) rfl (.ptr .nil (by first | rfl | omega)) (.same (lk 10 rfl rfl) (.same (lk 11 rfl rfl) (.same (lk 12 rfl rfl) .nil))))) (.refl _)) ?_
  refine AWp.seq ?_
  refine AWp.seq ?_
  refine W.reg [0, 1] rfl ?_
  refine S.sil 18 rfl rfl (fun _ hF => .move (lk 0 rfl rfl)) ?_
  refine S.sil 19 rfl rfl (fun _ hF => .neq (lk 0 rfl rfl) cI) ?_
  refine S.nil ?_
  refine thenQ_n ?_
  refine AWp.condM (lk 0 rfl rfl) h (fun c1 h => ?_) (fun c1 h => ?_)
  · skip
    refine AWp.seq ?_
    refine W.reg [0, 1, 2, 3] rfl ?_
    obtain ⟨v5, ev5, h⟩ := h.nam
    refine S.sil 20 rfl rfl (fun _ hF => .nv (.nv (v2 := E_TRights (⟨(default : Vector Int 16), (default : Vector Int 16), (default : Vector (Vector Int 16) 16)⟩ : TRights)) (.buildStW lay35 zv35 rfl .nil) rfl) (congrArg E_TRights ev5.symm)) ?_
    refine S.sil 21 rfl rfl (fun _ hF => .move (lk 3 rfl rfl)) ?_
    refine S.effN rfl rfl (.nf (H2 := [.cells (E_TRights a1), .cells (E_TRights v5), .dead]) (.storeP sz35 (lk 7 rfl rfl) (lk 1 rfl rfl) rfl (.refl _) rfl .nil (by first | rfl | omega) .nil (ty_TRights.fl v5) (ty_TRights.fl (default : TRights)) rfl) rfl rfl) trivial ?_
    refine S.sil 7 rfl rfl (fun _ hF => .assign (lk 0 rfl rfl)) ?_
    refine S.nil ?_
    refine thenQ_n ?_
    refine AWp.ret ?_
    refine thenQ_r ?_
    refine endF_wk (Wk.freeze 1 rfl rfl (.same (lk 0 rfl rfl) (.same (lk 0 rfl rfl) (.cons (lk 8 rfl rfl) rfl (.ptr .nil (by first | rfl | omega)) .nil))) (.refl _)) ?_
    obtain rfl := h.ret
    exact endFN rfl (Wk.selS [] .nil rfl (SelE.leaf (lk 2 rfl rfl) rfl (.refl _) (fun m => (lt_cptr (ty_TRights.lt _ _))) (SelE.leaf (lk 0 rfl rfl) rfl (.refl _) (fun m => ((TyOk.int .i64).lt _ _)) .nil)) .nil) (.cons (.cellC sz35 ag35 (lk 0 rfl rfl) (ty_TRights.fl _) rfl) (.cons (.tmp (lk 1 rfl rfl) rfl) .nil)) rfl rfl rfl
  · skip
    refine AWp.skip ?_
    refine thenQ_n ?_
    refine AWp.seq ?_
    refine W.reg [0, 1, 2] rfl ?_
    refine S.sil 22 rfl rfl (fun _ hF => .loadC sz32 ag32 (lk 3 rfl rfl) (ty_A16_i64.fl r4.1) rfl) ?_
    refine S.sil 23 rfl rfl (fun _ hF => .fieldAddr lay35 rfl rfl (lk 7 rfl rfl)) ?_
    obtain ⟨v6, ev6, h⟩ := h.nam
    refine S.effN rfl rfl (.nf (H2 := [.cells (E_TRights v6), .cells (E_TRights (default : TRights)), .dead]) (.storeP sz32 (lk 0 rfl rfl) (lk 1 rfl rfl) rfl (.refl _) rfl (.st rfl flL_nil .nil) (by first | rfl | omega) (.st rfl .nil rfl) (ty_A16_i64.fl r4.1) (ty_A16_i64.fl a1.Given) (congrArg (fun z => ([AObj.cells (E_TRights z), .cells (E_TRights (default : TRights)), .dead] : List AObj)) ev6.symm)) rfl rfl) trivial ?_
    refine S.nil ?_
    refine thenQ_n ?_
    refine AWp.seq ?_
    refine W.reg [0, 1, 2] rfl ?_
    refine S.qui 24 rfl rfl (fun _ => .loadP sz35 ag35 (lk 8 rfl rfl) rfl .nil (by first | rfl | omega) (ty_TRights.fl v6) rfl) ?_
    refine S.effN rfl rfl (.nf (H2 := [.cells (E_TRights v6), .cells (E_TRights v6), .dead]) (.storeP sz35 (lk 8 rfl rfl) (lk 0 rfl rfl) rfl (.refl _) rfl .nil (by first | rfl | omega) .nil (ty_TRights.fl v6) (ty_TRights.fl (default : TRights)) rfl) rfl rfl) trivial ?_
    refine S.sil 7 rfl rfl (fun _ hF => .assign cI) ?_
    refine S.nil ?_
    refine thenQ_n ?_
    refine AWp.ret ?_
    refine endF_wk (Wk.freeze 1 rfl rfl (.same (lk 0 rfl rfl) (.same (lk 0 rfl rfl) (.cons (lk 9 rfl rfl) rfl (.ptr .nil (by first | rfl | omega)) .nil))) (.refl _)) ?_
    obtain rfl := h.ret
    exact endFN rfl (Wk.selS [] .nil rfl (SelE.leaf (lk 2 rfl rfl) rfl (.refl _) (fun m => (lt_cptr (ty_TRights.lt _ _))) (SelE.leaf (lk 0 rfl rfl) rfl (.refl _) (fun m => ((TyOk.int .i64).lt _ _)) .nil)) .nil) (.cons (.cellC sz35 ag35 (lk 0 rfl rfl) (ty_TRights.fl _) rfl) (.cons (.tmp (lk 1 rfl rfl) rfl) .nil)) rfl rfl rfl
theorem C_counter_Inc_2 {a1 : Int} {a2 : Int} {b3 : TCounter} {r : TRights × Int × TCounter} (h : counter_Inc_2 a1 a2 b3 = some r) : CallSpec Pg 148 [.ptr 0 [] 0, .cptr ((V.int .i64) a1), .cptr ((V.int .i64) a2)] [.cells (E_TCounter b3)] fun o H' => o = .ret (.tup [E_TRights r.1, (V.int .i64) r.2.1]) ∧ H' = [.cells (E_TCounter r.2.2)] := by
  refine CallSpec.of_bodyF 12 1 fn148 rfl rfl rfl (Nat.le_of_ble_eq_true rfl) ?_
  replace h := Ok.of h
  unfold counter_Inc_2 at h
  refine AWp.seq ?_
  refine W.reg [0, 1] rfl ?_
  refine S.eff 3 rfl rfl (.nf (v2 := .ptr 1 [] 0) (H2 := [.cells (E_TCounter b3), .cells (E_TRights (default : TRights))]) (.alloc zv35) rfl rfl) trivial ?_
  refine S.sil 4 rfl rfl (fun _ hF => .assign cI) ?_
  refine S.nil ?_
  refine thenQ_n ?_
  refine AWp.seq ?_
  refine W.reg [0, 1, 2, 3, 4, 5, 6, 7, 8] rfl ?_
  refine S.sil 5 rfl rfl (fun _ hF => .fieldAddr lay37 rfl rfl (lk 2 rfl rfl)) ?_
  refine S.qui 6 rfl rfl (fun _ => .loadP sz35 ag35 (lk 0 rfl rfl) rfl (.st rfl (flL_c (show flen _ = 1 from rfl) (flL_c (show flen _ = 1 from rfl) (flL_c (show flen _ = 1 from rfl) flL_nil))) .nil) (by first | rfl | omega) (ty_TRights.fl b3.Down) rfl) ?_
  refine S.sil 7 rfl rfl (fun _ hF => .loadC sz3 ag3 (lk 5 rfl rfl) rfl rfl) ?_
  refine S.sil 8 rfl rfl (fun _ hF => .loadC sz3 ag3 (lk 7 rfl rfl) rfl rfl) ?_
  obtain ⟨r4, m4, h⟩ := h.bnd
  refine S.sil 9 rfl rfl (fun _ hF => .callQ ent149 cF (.c (lk 2 rfl rfl) (V.sub.refl _) (.c (lk 1 rfl rfl) (V.sub.refl _) (.c (lk 0 rfl rfl) (V.sub.refl _) .nil))) (C_rights_Give m4)) ?_
  refine S.sil 10 rfl rfl (fun _ hF => .extract (lk 0 rfl rfl) rfl) ?_
  refine S.sil 11 rfl rfl (fun _ hF => .extract (lk 1 rfl rfl) rfl) ?_
  refine S.effN rfl rfl (.nf (H2 := [.cells (E_TCounter b3), .cells (E_TRights r4.1)]) (.storeP sz35 (lk 8 rfl rfl) (lk 1 rfl rfl) rfl (.refl _) rfl .nil (by first | rfl | omega) .nil (ty_TRights.fl r4.1) (ty_TRights.fl (default : TRights)) rfl) rfl rfl) trivial ?_
  refine S.sil 4 rfl rfl (fun _ hF => .assign (lk 0 rfl rfl)) ?_
  refine S.nil ?_
  refine thenQ_n ?_
  refine AWp.prune (.eq (lk 0 rfl rfl) rfl (.eq (lk 9 rfl rfl) rfl .nil)) ?_
  refine AWp.ret ?_
  refine endF_wk (Wk.freeze 1 rfl rfl (.same (lk 0 rfl rfl) (.cons (lk 1 rfl rfl) rfl (.ptr .nil (by first | rfl | omega)) .nil)) (.refl _)) ?_
  obtain rfl := h.ret
  exact endFN rfl (Wk.selS [0] (by decide) rfl (SelE.leaf (lk 1 rfl rfl) rfl (.refl _) (fun m => (lt_cptr (ty_TRights.lt _ _))) (SelE.leaf (lk 0 rfl rfl) rfl (.refl _) (fun m => ((TyOk.int .i64).lt _ _)) .nil)) (.cons (lt_cells (ty_TCounter.lt _ _)) rfl (RSub.trans (.refl _) (.eq (ty_TCounter.cl _ _).symm)) .nil)) (.cons (.cellC sz35 ag35 (lk 0 rfl rfl) (ty_TRights.fl _) rfl) (.cons (.tmp (lk 1 rfl rfl) rfl) .nil)) rfl rfl rfl
theorem C_counter_Inc_3 {a1 : TRights} {a2 : TRights} {b3 : TCounter} {r : TCounter} (h : counter_Inc_3 a1 a2 b3 = some r) : CallSpec Pg 150 [E_TRights a1, E_TRights a2, .ptr 0 [] 0] [.cells (E_TCounter b3)] fun o H' => o = .ret (.tup []) ∧ H' = [.cells (E_TCounter r)] := by
  refine CallSpec.of_bodyF 9 1 fn150 rfl rfl rfl (Nat.le_of_ble_eq_true rfl) ?_
  replace h := Ok.of h
  unfold counter_Inc_3 at h
  refine AWp.seq ?_
  refine W.reg [0, 1] rfl ?_
  refine S.eff 3 rfl rfl (.nf (v2 := .ptr 1 [] 0) (H2 := [.cells (E_TCounter b3), .cells (E_TRights a1)]) (.box (lk 0 rfl rfl) rfl) rfl rfl) trivial ?_
  refine S.eff 4 rfl rfl (.nf (v2 := .ptr 2 [] 0) (H2 := [.cells (E_TCounter b3), .cells (E_TRights a1), .cells (E_TRights a2)]) (.box (lk 2 rfl rfl) rfl) rfl rfl) trivial ?_
  refine S.nil ?_
  refine thenQ_n ?_
  refine AWp.wk (Wk.freeze 1 rfl rfl (.same (lk 0 rfl rfl) (.cons (lk 1 rfl rfl) rfl (.ptr .nil (by first | rfl | omega)) (.same (lk 4 rfl rfl) .nil))) (.refl _)) ?_
  refine AWp.wk (Wk.freeze 2 rfl rfl (.cons (lk 0 rfl rfl) rfl (.ptr .nil (by first | rfl | omega)) (.same (lk 1 rfl rfl) (.same (lk 2 rfl rfl) .nil))) (.refl _)) ?_
  refine W.regD [0, 1, 2, 3, 4, 5] mixed ?_
  refine S.sil 5 rfl rfl (fun _ hF => .loadC sz35 ag35 (lk 1 rfl rfl) (ty_TRights.fl a1) rfl) ?_
  refine S.sil 6 rfl rfl (fun _ hF => .loadC sz35 ag35 (lk 1 rfl rfl) (ty_TRights.fl a2) rfl) ?_
  refine S.sil 7 rfl rfl (fun _ hF => .fieldAddr lay37 rfl rfl (lk 4 rfl rfl)) ?_
  obtain ⟨v4, ev4, h⟩ := h.nam
  refine S.effN rfl rfl (.storeP sz35 (lk 0 rfl rfl) (lk 2 rfl rfl) rfl (.refl _) rfl (.st rfl (flL_c (show flen _ = 1 from rfl) (flL_c (show flen _ = 1 from rfl) (flL_c (show flen _ = 1 from rfl) (flL_c (ty_TRights.fl b3.Down) flL_nil)))) .nil) (by first | rfl | omega) (.st rfl .nil rfl) (ty_TRights.fl a1) (ty_TRights.fl b3.Up) (congrArg (fun z => ([AObj.cells (E_TCounter z), .dead, .dead] : List AObj)) ev4.symm)) trivial ?_
  refine S.sil 8 rfl rfl (fun _ hF => .fieldAddr lay37 rfl rfl (lk 5 rfl rfl)) ?_
  obtain ⟨v5, ev5, h⟩ := h.nam
  refine S.effN rfl rfl (.storeP sz35 (lk 0 rfl rfl) (lk 2 rfl rfl) rfl (.refl _) rfl (.st rfl (flL_c (show flen _ = 1 from rfl) (flL_c (show flen _ = 1 from rfl) (flL_c (show flen _ = 1 from rfl) flL_nil))) .nil) (by first | rfl | omega) (.st rfl .nil rfl) (ty_TRights.fl a2) (ty_TRights.fl v4.Down) (congrArg (fun z => ([AObj.cells (E_TCounter z), .dead, .dead] : List AObj)) ev5.symm)) trivial ?_
  refine S.nilD (by kernel_rfl) ?_
  refine endF_n ?_
  obtain rfl := h.ret
  exact endFN rfl (Wk.selS [0] (by decide) rfl .nil (.cons (lt_cells (ty_TCounter.lt _ _)) rfl (RSub.trans (.refl _) (.eq (ty_TCounter.cl _ _).symm)) .nil)) .nil rfl rfl rfl
theorem C_counter_both_Inc_1_Inc_2_Inc_3 {a1 : TCounter} {a2 : Int} {a3 : Int} {a4 : Int} {a5 : Int} {b6 : TCounter} {r : Int × TCounter} (h : counter_both_Inc_1_Inc_2_Inc_3 a1 a2 a3 a4 a5 b6 = some r) : CallSpec Pg 145 [E_TCounter a1, .fn 146 [] [.ptr 0 [] 0, .cptr ((V.int .i64) a2), .cptr ((V.int .i64) a3)], .fn 148 [] [.ptr 0 [] 0, .cptr ((V.int .i64) a4), .cptr ((V.int .i64) a5)], .fn 150 [] [.ptr 0 [] 0]] [.cells (E_TCounter b6)] fun o H' => o = .ret ((V.int .i64) r.1) ∧ H' = [.cells (E_TCounter r.2)] := by
  refine CallSpec.of_bodyF 32 1 fn145 rfl rfl rfl (Nat.le_of_ble_eq_true rfl) ?_
  replace h := Ok.of h
  unfold counter_both_Inc_1_Inc_2_Inc_3 at h
  refine AWp.seq ?_
  refine W.reg [0, 1] rfl ?_
  refine S.eff 4 rfl rfl (.nf (v2 := .ptr 1 [] 0) (H2 := [.cells (E_TCounter b6), .cells (E_TCounter a1)]) (.box (lk 0 rfl rfl) rfl) rfl rfl) trivial ?_
  refine S.sil 8 rfl rfl (fun _ hF => .assign cI) ?_
  refine S.nil ?_
  refine thenQ_n ?_
  refine AWp.wk (Wk.freeze 1 rfl rfl (.same (lk 0 rfl rfl) (.same (lk 3 rfl rfl) (.same (lk 4 rfl rfl) (.same (lk 5 rfl rfl) .nil)))) (.refl _)) ?_
  refine AWp.seq ?_
  refine W.reg [0, 1, 2, 3, 4, 5, 6, 7] rfl ?_
  refine S.sil 13 rfl rfl (fun _ hF => .move (lk 1 rfl rfl)) ?_
  obtain ⟨r7, m7, h⟩ := h.bnd
  refine S.eff 14 rfl rfl (.nf (v2 := .tup [E_TRights r7.1, (V.int .i64) r7.2.1]) (H2 := [.cells (E_TCounter r7.2.2), .dead]) (.callH ent146 (lk 0 rfl rfl) [0] (C_counter_Inc_1 m7) (by decide) (.cons (lt_cells (ty_TCounter.lt _ _)) rfl (RSub.trans (.refl _) (.eq (ty_TCounter.cl _ _).symm)) .nil) (ltL_c rfl (ltL_c (lt_cptr ((TyOk.int .i64).lt _ _)) (ltL_c (lt_cptr ((TyOk.int .i64).lt _ _)) ltL_nil))) (.cons (subren rfl) (.cons (vsubr (V.sub.refl _) (lt_cptr ((TyOk.int .i64).lt _ _))) (.cons (vsubr (V.sub.refl _) (lt_cptr ((TyOk.int .i64).lt _ _))) .nil))) (ren_tup (renL_c (ty_TRights.cl _ _) (renL_c ((TyOk.int .i64).cl _ _) rfl))) (mapc (ren_cells (ty_TCounter.cl _ _)) rfl) rfl) rfl rfl) trivial ?_
  refine S.sil 12 rfl rfl (fun _ hF => .move (lk 0 rfl rfl)) ?_
  refine S.sil 15 rfl rfl (fun _ hF => .extract (lk 0 rfl rfl) rfl) ?_
  refine S.sil 16 rfl rfl (fun _ hF => .extract (lk 1 rfl rfl) rfl) ?_
  refine S.eff 9 rfl rfl (.nf (v2 := .ptr 2 [] 0) (H2 := [.cells (E_TCounter r7.2.2), .dead, .cells (E_TRights (default : TRights))]) (.alloc zv35) rfl rfl) trivial ?_
  refine S.effN rfl rfl (.nf (H2 := [.cells (E_TCounter r7.2.2), .dead, .cells (E_TRights r7.1)]) (.storeP sz35 (lk 0 rfl rfl) (lk 2 rfl rfl) rfl (.refl _) rfl .nil (by first | rfl | omega) .nil (ty_TRights.fl r7.1) (ty_TRights.fl (default : TRights)) rfl) rfl rfl) trivial ?_
  refine S.sil 10 rfl rfl (fun _ hF => .assign (lk 1 rfl rfl)) ?_
  refine S.nil ?_
  refine thenQ_n ?_
  refine AWp.wk (Wk.freeze 2 rfl rfl (.same (lk 0 rfl rfl) (.cons (lk 1 rfl rfl) rfl (.ptr .nil (by first | rfl | omega)) (.same (lk 7 rfl rfl) (.same (lk 9 rfl rfl) (.same (lk 10 rfl rfl) .nil))))) (.refl _)) ?_
  refine AWp.seq ?_
  refine AWp.seq ?_
  refine W.reg [0, 1] rfl ?_
  refine S.sil 17 rfl rfl (fun _ hF => .move (lk 0 rfl rfl)) ?_
  refine S.sil 18 rfl rfl (fun _ hF => .neq (lk 0 rfl rfl) cI) ?_
  refine S.nil ?_
  refine thenQ_n ?_
  refine AWp.condM (lk 0 rfl rfl) h (fun c1 h => ?_) (fun c1 h => ?_)
  · skip
    refine AWp.seq ?_
    refine W.reg [0, 1] rfl ?_
    refine S.sil 19 rfl rfl (fun _ hF => .move (lk 2 rfl rfl)) ?_
    refine S.sil 8 rfl rfl (fun _ hF => .assign (lk 0 rfl rfl)) ?_
    refine S.nil ?_
    refine thenQ_n ?_
    refine AWp.ret ?_
    refine thenQ_r ?_
    obtain rfl := h.ret
    exact endF1 rfl (Wk.selS [0] (by decide) rfl (SelE.leaf (lk 0 rfl rfl) rfl (.refl _) (fun m => ((TyOk.int .i64).lt _ _)) .nil) (.cons (lt_cells (ty_TCounter.lt _ _)) rfl (RSub.trans (.refl _) (.eq (ty_TCounter.cl _ _).symm)) .nil)) (.tmp (lk 0 rfl rfl) rfl) rfl rfl
  · skip
    refine AWp.skip ?_
    refine thenQ_n ?_
    refine AWp.seq ?_
    refine W.reg [0, 1, 2, 3, 4, 5, 6, 7] rfl ?_
    refine S.sil 21 rfl rfl (fun _ hF => .move (lk 5 rfl rfl)) ?_
    obtain ⟨r8, m8, h⟩ := h.bnd
    refine S.eff 22 rfl rfl (.nf (v2 := .tup [E_TRights r8.1, (V.int .i64) r8.2.1]) (H2 := [.cells (E_TCounter r8.2.2), .dead, .dead]) (.callH ent148 (lk 0 rfl rfl) [0] (C_counter_Inc_2 m8) (by decide) (.cons (lt_cells (ty_TCounter.lt _ _)) rfl (RSub.trans (.refl _) (.eq (ty_TCounter.cl _ _).symm)) .nil) (ltL_c rfl (ltL_c (lt_cptr ((TyOk.int .i64).lt _ _)) (ltL_c (lt_cptr ((TyOk.int .i64).lt _ _)) ltL_nil))) (.cons (subren rfl) (.cons (vsubr (V.sub.refl _) (lt_cptr ((TyOk.int .i64).lt _ _))) (.cons (vsubr (V.sub.refl _) (lt_cptr ((TyOk.int .i64).lt _ _))) .nil))) (ren_tup (renL_c (ty_TRights.cl _ _) (renL_c ((TyOk.int .i64).cl _ _) rfl))) (mapc (ren_cells (ty_TCounter.cl _ _)) rfl) rfl) rfl rfl) trivial ?_
    refine S.sil 20 rfl rfl (fun _ hF => .move (lk 0 rfl rfl)) ?_
    refine S.sil 23 rfl rfl (fun _ hF => .extract (lk 0 rfl rfl) rfl) ?_
    refine S.sil 24 rfl rfl (fun _ hF => .extract (lk 1 rfl rfl) rfl) ?_
    refine S.eff 11 rfl rfl (.nf (v2 := .ptr 3 [] 0) (H2 := [.cells (E_TCounter r8.2.2), .dead, .dead, .cells (E_TRights (default : TRights))]) (.alloc zv35) rfl rfl) trivial ?_
    refine S.effN rfl rfl (.nf (H2 := [.cells (E_TCounter r8.2.2), .dead, .dead, .cells (E_TRights r8.1)]) (.storeP sz35 (lk 0 rfl rfl) (lk 2 rfl rfl) rfl (.refl _) rfl .nil (by first | rfl | omega) .nil (ty_TRights.fl r8.1) (ty_TRights.fl (default : TRights)) rfl) rfl rfl) trivial ?_
    refine S.sil 10 rfl rfl (fun _ hF => .assign (lk 1 rfl rfl)) ?_
    refine S.nil ?_
    refine thenQ_n ?_
    refine AWp.wk (Wk.freeze 3 rfl rfl (.same (lk 0 rfl rfl) (.cons (lk 1 rfl rfl) rfl (.ptr .nil (by first | rfl | omega)) (.same (lk 10 rfl rfl) (.same (lk 11 rfl rfl) (.same (lk 13 rfl rfl) .nil))))) (.refl _)) ?_
    refine AWp.seq ?_
    refine AWp.seq ?_
    refine W.reg [0, 1] rfl ?_
    refine S.sil 25 rfl rfl (fun _ hF => .move (lk 0 rfl rfl)) ?_
    refine S.sil 26 rfl rfl (fun _ hF => .eql (lk 0 rfl rfl) cI) ?_
    refine S.nil ?_
    refine thenQ_n ?_
    refine AWp.condM (lk 0 rfl rfl) h (fun c2 h => ?_) (fun c2 h => ?_)
    · skip
      refine W.reg [0, 1, 2, 3] rfl ?_
      refine S.sil 27 rfl rfl (fun _ hF => .move (lk 6 rfl rfl)) ?_
      refine S.sil 28 rfl rfl (fun _ hF => .loadC sz35 ag35 (lk 5 rfl rfl) (ty_TRights.fl r7.1) rfl) ?_
      refine S.sil 29 rfl rfl (fun _ hF => .loadC sz35 ag35 (lk 5 rfl rfl) (ty_TRights.fl r8.1) rfl) ?_
      obtain ⟨r9, m9, h⟩ := h.bnd
      refine S.eff 30 rfl rfl (.nf (H2 := [.cells (E_TCounter r9), .dead, .dead, .dead]) (.callH ent150 (lk 2 rfl rfl) [0] (C_counter_Inc_3 m9) (by decide) (.cons (lt_cells (ty_TCounter.lt _ _)) rfl (RSub.trans (.refl _) (.eq (ty_TCounter.cl _ _).symm)) .nil) (ltL_c (ty_TRights.lt _ _) (ltL_c (ty_TRights.lt _ _) (ltL_c rfl ltL_nil))) (.c (lk 1 rfl rfl) (vsubr (V.sub.refl _) (ty_TRights.lt _ _)) (.c (lk 0 rfl rfl) (vsubr (V.sub.refl _) (ty_TRights.lt _ _)) (.cons (subren rfl) .nil))) (ren_tup rfl) (mapc (ren_cells (ty_TCounter.cl _ _)) rfl) rfl) rfl rfl) trivial ?_
      refine S.nil ?_
      refine thenQ_n ?_
      refine AWp.seq ?_
      refine W.reg [0, 1] rfl ?_
      refine S.sil 31 rfl rfl (fun _ hF => .move (lk 6 rfl rfl)) ?_
      refine S.sil 8 rfl rfl (fun _ hF => .assign (lk 0 rfl rfl)) ?_
      refine S.nil ?_
      refine thenQ_n ?_
      refine AWp.prune (.eq (lk 0 rfl rfl) rfl .nil) ?_
      refine AWp.ret ?_
      obtain rfl := h.ret
      exact endF1 rfl (Wk.selS [0] (by decide) rfl (SelE.leaf (lk 0 rfl rfl) rfl (.refl _) (fun m => ((TyOk.int .i64).lt _ _)) .nil) (.cons (lt_cells (ty_TCounter.lt _ _)) rfl (RSub.trans (.refl _) (.eq (ty_TCounter.cl _ _).symm)) .nil)) (.tmp (lk 0 rfl rfl) rfl) rfl rfl
    · skip
      refine AWp.skip ?_
      refine thenQ_n ?_
      refine AWp.seq ?_
      refine W.reg [0, 1] rfl ?_
      refine S.sil 31 rfl rfl (fun _ hF => .move (lk 2 rfl rfl)) ?_
      refine S.sil 8 rfl rfl (fun _ hF => .assign (lk 0 rfl rfl)) ?_
      refine S.nil ?_
      refine thenQ_n ?_
      refine AWp.ret ?_
      obtain rfl := h.ret
      exact endF1 rfl (Wk.selS [0] (by decide) rfl (SelE.leaf (lk 0 rfl rfl) rfl (.refl _) (fun m => ((TyOk.int .i64).lt _ _)) .nil) (.cons (lt_cells (ty_TCounter.lt _ _)) rfl (RSub.trans (.refl _) (.eq (ty_TCounter.cl _ _).symm)) .nil)) (.tmp (lk 0 rfl rfl) rfl) rfl rfl
theorem C_counter_done {a1 : TCounter} {a2 : Int} {r : TCounter × Int} (h : counter_done a1 a2 = some r) : PureC Pg 151 [E_TCounter a1, (V.int .i64) a2] (.tup [E_TCounter r.1, (V.int .i64) r.2]) := by
  refine PureC.ofF (CallSpec.of_bodyF 11 0 fn151 rfl rfl rfl (Nat.le_of_ble_eq_true rfl) ?_) (ltL_c (ty_TCounter.lt _ _) (ltL_c ((TyOk.int .i64).lt _ _) ltL_nil)) (lt_tup (ltL_c (ty_TCounter.lt _ _) (ltL_c ((TyOk.int .i64).lt _ _) ltL_nil)))
  replace h := Ok.of h
  unfold counter_done at h
  refine AWp.seq ?_
  refine W.reg [0, 1, 2] rfl ?_
  refine S.eff 2 rfl rfl (.nf (v2 := .ptr 0 [] 0) (H2 := [.cells (E_TCounter a1)]) (.box (lk 0 rfl rfl) rfl) rfl rfl) trivial ?_
  refine S.eff 4 rfl rfl (.nf (v2 := .ptr 1 [] 0) (H2 := [.cells (E_TCounter a1), .cells (E_TCounter (default : TCounter))]) (.alloc zv37) rfl rfl) trivial ?_
  refine S.sil 5 rfl rfl (fun _ hF => .assign cI) ?_
  refine S.nil ?_
  refine thenQ_n ?_
  refine AWp.wk (Wk.freeze 0 rfl rfl (.same (lk 0 rfl rfl) (.same (lk 1 rfl rfl) (.cons (lk 2 rfl rfl) rfl (.ptr .nil (by first | rfl | omega)) (.same (lk 4 rfl rfl) .nil)))) (.refl _)) ?_
  refine AWp.seq ?_
  refine AWp.seq ?_
  refine W.reg [0, 1] rfl ?_
  refine S.sil 6 rfl rfl (fun _ hF => .move (lk 3 rfl rfl)) ?_
  refine S.sil 7 rfl rfl (fun _ hF => .neq (lk 0 rfl rfl) cI) ?_
  refine S.nil ?_
  refine thenQ_n ?_
  refine AWp.condM (lk 0 rfl rfl) h (fun c1 h => ?_) (fun c1 h => ?_)
  · skip
    refine AWp.seq ?_
    refine W.reg [0, 1, 2, 3] rfl ?_
    obtain ⟨v3, ev3, h⟩ := h.nam
    refine S.sil 8 rfl rfl (fun _ hF => .nv (.nv (v2 := E_TCounter (⟨0, 0, 0, (default : TRights), (default : TRights)⟩ : TCounter)) (.buildStW lay37 zv37 rfl .nil) rfl) (congrArg E_TCounter ev3.symm)) ?_
    refine S.sil 9 rfl rfl (fun _ hF => .move (lk 6 rfl rfl)) ?_
    refine S.effN rfl rfl (.nf (H2 := [.dead, .cells (E_TCounter v3)]) (.storeP sz37 (lk 5 rfl rfl) (lk 1 rfl rfl) rfl (.refl _) rfl .nil (by first | rfl | omega) .nil (ty_TCounter.fl v3) (ty_TCounter.fl (default : TCounter)) rfl) rfl rfl) trivial ?_
    refine S.sil 5 rfl rfl (fun _ hF => .assign (lk 0 rfl rfl)) ?_
    refine S.nil ?_
    refine thenQ_n ?_
    refine AWp.ret ?_
    refine thenQ_r ?_
    refine endF_wk (Wk.freeze 1 rfl rfl (.same (lk 0 rfl rfl) (.same (lk 0 rfl rfl) (.cons (lk 6 rfl rfl) rfl (.ptr .nil (by first | rfl | omega)) .nil))) (.refl _)) ?_
    obtain rfl := h.ret
    exact endFN rfl (Wk.selS [] .nil rfl (SelE.leaf (lk 2 rfl rfl) rfl (.refl _) (fun m => (lt_cptr (ty_TCounter.lt _ _))) (SelE.leaf (lk 0 rfl rfl) rfl (.refl _) (fun m => ((TyOk.int .i64).lt _ _)) .nil)) .nil) (.cons (.cellC sz37 ag37 (lk 0 rfl rfl) (ty_TCounter.fl _) rfl) (.cons (.tmp (lk 1 rfl rfl) rfl) .nil)) rfl rfl rfl
  · skip
    refine AWp.skip ?_
    refine thenQ_n ?_
    refine AWp.seq ?_
    refine W.reg [0, 1, 2] rfl ?_
    refine S.sil 10 rfl rfl (fun _ hF => .loadC sz37 ag37 (lk 4 rfl rfl) (ty_TCounter.fl a1) rfl) ?_
    refine S.effN rfl rfl (.nf (H2 := [.dead, .cells (E_TCounter a1)]) (.storeP sz37 (lk 4 rfl rfl) (lk 0 rfl rfl) rfl (.refl _) rfl .nil (by first | rfl | omega) .nil (ty_TCounter.fl a1) (ty_TCounter.fl (default : TCounter)) rfl) rfl rfl) trivial ?_
    refine S.sil 5 rfl rfl (fun _ hF => .assign cI) ?_
    refine S.nil ?_
    refine thenQ_n ?_
    refine AWp.ret ?_
    refine endF_wk (Wk.freeze 1 rfl rfl (.same (lk 0 rfl rfl) (.same (lk 0 rfl rfl) (.cons (lk 5 rfl rfl) rfl (.ptr .nil (by first | rfl | omega)) .nil))) (.refl _)) ?_
    obtain rfl := h.ret
    exact endFN rfl (Wk.selS [] .nil rfl (SelE.leaf (lk 2 rfl rfl) rfl (.refl _) (fun m => (lt_cptr (ty_TCounter.lt _ _))) (SelE.leaf (lk 0 rfl rfl) rfl (.refl _) (fun m => ((TyOk.int .i64).lt _ _)) .nil)) .nil) (.cons (.cellC sz37 ag37 (lk 0 rfl rfl) (ty_TCounter.fl _) rfl) (.cons (.tmp (lk 1 rfl rfl) rfl) .nil)) rfl rfl rfl
theorem C_counter_Inc {a1 : TCounter} {a2 : Int} {a3 : Int} {r : TCounter × Int} (h : counter_Inc a1 a2 a3 = some r) : PureC Pg 75 [E_TCounter a1, (V.int .i64) a2, (V.int .i64) a3] (.tup [E_TCounter r.1, (V.int .i64) r.2]) := by
  refine PureC.ofF (CallSpec.of_bodyF 19 0 fn75 rfl rfl rfl (Nat.le_of_ble_eq_true rfl) ?_) (ltL_c (ty_TCounter.lt _ _) (ltL_c ((TyOk.int .i64).lt _ _) (ltL_c ((TyOk.int .i64).lt _ _) ltL_nil))) (lt_tup (ltL_c (ty_TCounter.lt _ _) (ltL_c ((TyOk.int .i64).lt _ _) ltL_nil)))
  replace h := Ok.of h
  unfold counter_Inc at h
  refine AWp.seq ?_
  refine W.reg [0, 1, 2, 3, 4] rfl ?_
  refine S.eff 3 rfl rfl (.nf (v2 := .ptr 0 [] 0) (H2 := [.cells (E_TCounter a1)]) (.box (lk 0 rfl rfl) rfl) rfl rfl) trivial ?_
  refine S.eff 4 rfl rfl (.nf (v2 := .ptr 1 [] 0) (H2 := [.cells (E_TCounter a1), .cells ((V.int .i64) a2)]) (.box (lk 2 rfl rfl) rfl) rfl rfl) trivial ?_
  refine S.eff 5 rfl rfl (.nf (v2 := .ptr 2 [] 0) (H2 := [.cells (E_TCounter a1), .cells ((V.int .i64) a2), .cells ((V.int .i64) a3)]) (.box (lk 4 rfl rfl) rfl) rfl rfl) trivial ?_
  refine S.eff 6 rfl rfl (.nf (v2 := .ptr 3 [] 0) (H2 := [.cells (E_TCounter a1), .cells ((V.int .i64) a2), .cells ((V.int .i64) a3), .cells (E_TCounter (default : TCounter))]) (.alloc zv37) rfl rfl) trivial ?_
  refine S.sil 7 rfl rfl (fun _ hF => .assign cI) ?_
  refine S.nil ?_
  refine thenQ_n ?_
  refine AWp.wk (Wk.freeze 1 rfl rfl (.same (lk 0 rfl rfl) (.same (lk 1 rfl rfl) (.same (lk 2 rfl rfl) (.cons (lk 3 rfl rfl) rfl (.ptr .nil (by first | rfl | omega)) (.same (lk 4 rfl rfl) .nil))))) (.refl _)) ?_
  refine AWp.wk (Wk.freeze 2 rfl rfl (.same (lk 0 rfl rfl) (.same (lk 1 rfl rfl) (.cons (lk 2 rfl rfl) rfl (.ptr .nil (by first | rfl | omega)) (.same (lk 3 rfl rfl) (.same (lk 4 rfl rfl) .nil))))) (.refl _)) ?_
  refine AWp.seq ?_
  refine W.reg [0, 1, 2, 3, 4, 5] rfl ?_
  refine S.qui 9 rfl rfl (fun _ => .loadP sz37 ag37 (lk 4 rfl rfl) rfl .nil (by first | rfl | omega) (ty_TCounter.fl a1) rfl) ?_
  refine S.sil 10 rfl rfl (fun _ hF => .makeFunc rfl (mapE3 (lk 5 rfl rfl) (lk 4 rfl rfl) (lk 3 rfl rfl)) rfl rfl) ?_
  refine S.sil 11 rfl rfl (fun _ hF => .makeFunc rfl (mapE3 (lk 6 rfl rfl) (lk 5 rfl rfl) (lk 4 rfl rfl)) rfl rfl) ?_
  refine S.sil 12 rfl rfl (fun _ hF => .makeFunc rfl (mapE1 (lk 7 rfl rfl)) rfl rfl) ?_
  obtain ⟨r4, m4, h⟩ := h.bnd
  refine S.eff 13 rfl rfl (.nf (v2 := (V.int .i64) r4.1) (H2 := [.cells (E_TCounter r4.2), .dead, .dead, .cells (E_TCounter (default : TCounter))]) (.callH ent145 cF [0] (C_counter_both_Inc_1_Inc_2_Inc_3 m4) (by decide) (.cons (lt_cells (ty_TCounter.lt _ _)) rfl (RSub.trans (.refl _) (.eq (ty_TCounter.cl _ _).symm)) .nil) (ltL_c (ty_TCounter.lt _ _) (ltL_c (lt_fn ltL_nil (ltL_c rfl (ltL_c (lt_cptr ((TyOk.int .i64).lt _ _)) (ltL_c (lt_cptr ((TyOk.int .i64).lt _ _)) ltL_nil)))) (ltL_c (lt_fn ltL_nil (ltL_c rfl (ltL_c (lt_cptr ((TyOk.int .i64).lt _ _)) (ltL_c (lt_cptr ((TyOk.int .i64).lt _ _)) ltL_nil)))) (ltL_c (lt_fn ltL_nil (ltL_c rfl ltL_nil)) ltL_nil)))) (.c (lk 3 rfl rfl) (vsubr (V.sub.refl _) (ty_TCounter.lt _ _)) (.c (lk 2 rfl rfl) (subren (ren_fn rfl (renL_c rfl (renL_c (ren_cptr ((TyOk.int .i64).cl _ _)) (renL_c (ren_cptr ((TyOk.int .i64).cl _ _)) rfl))))) (.c (lk 1 rfl rfl) (subren (ren_fn rfl (renL_c rfl (renL_c (ren_cptr ((TyOk.int .i64).cl _ _)) (renL_c (ren_cptr ((TyOk.int .i64).cl _ _)) rfl))))) (.c (lk 0 rfl rfl) (subren (ren_fn rfl (renL_c rfl rfl))) .nil)))) ((TyOk.int .i64).cl _ _) (mapc (ren_cells (ty_TCounter.cl _ _)) rfl) rfl) rfl rfl) trivial ?_
  refine S.sil 8 rfl rfl (fun _ hF => .assign (lk 0 rfl rfl)) ?_
  refine S.nil ?_
  refine thenQ_n ?_
  refine AWp.seq ?_
  refine W.reg [0, 1, 2, 3, 4, 5, 6] rfl ?_
  refine S.qui 14 rfl rfl (fun _ => .loadP sz37 ag37 (lk 10 rfl rfl) rfl .nil (by first | rfl | omega) (ty_TCounter.fl r4.2) rfl) ?_
  refine S.sil 15 rfl rfl (fun _ hF => .move (lk 1 rfl rfl)) ?_
  obtain ⟨r5, m5, h⟩ := h.bnd
  refine S.sil 16 rfl rfl (fun _ hF => .callQ ent151 cF (.c (lk 1 rfl rfl) (V.sub.refl _) (.c (lk 0 rfl rfl) (V.sub.refl _) .nil)) (C_counter_done m5)) ?_
  refine S.sil 17 rfl rfl (fun _ hF => .extract (lk 0 rfl rfl) rfl) ?_
  refine S.sil 18 rfl rfl (fun _ hF => .extract (lk 1 rfl rfl) rfl) ?_
  refine S.effN rfl rfl (.nf (H2 := [.cells (E_TCounter r4.2), .dead, .dead, .cells (E_TCounter r5.1)]) (.storeP sz37 (lk 12 rfl rfl) (lk 1 rfl rfl) rfl (.refl _) rfl .nil (by first | rfl | omega) .nil (ty_TCounter.fl r5.1) (ty_TCounter.fl (default : TCounter)) rfl) rfl rfl) trivial ?_
  refine S.sil 7 rfl rfl (fun _ hF => .assign (lk 0 rfl rfl)) ?_
  refine S.nil ?_
  refine thenQ_n ?_
  refine AWp.prune (.eq (lk 0 rfl rfl) rfl (.eq (lk 13 rfl rfl) rfl .nil)) ?_
  refine AWp.ret ?_
  refine endF_wk (Wk.freeze 3 rfl rfl (.same (lk 0 rfl rfl) (.cons (lk 1 rfl rfl) rfl (.ptr .nil (by first | rfl | omega)) .nil)) (.refl _)) ?_
  obtain rfl := h.ret
  exact endFN rfl (Wk.selS [] .nil rfl (SelE.leaf (lk 1 rfl rfl) rfl (.refl _) (fun m => (lt_cptr (ty_TCounter.lt _ _))) (SelE.leaf (lk 0 rfl rfl) rfl (.refl _) (fun m => ((TyOk.int .i64).lt _ _)) .nil)) .nil) (.cons (.cellC sz37 ag37 (lk 0 rfl rfl) (ty_TCounter.fl _) rfl) (.cons (.tmp (lk 1 rfl rfl) rfl) .nil)) rfl rfl rfl
theorem C_field_changed {a1 : TField} {a2 : TCounter} {a3 : Int} {r : TField × Int} (h : field_changed a1 a2 a3 = some r) : PureC Pg 76 [E_TField a1, E_TCounter a2, (V.int .i64) a3] (.tup [E_TField r.1, (V.int .i64) r.2]) := by
  refine PureC.ofF (CallSpec.of_bodyF 15 0 fn76 rfl rfl rfl (Nat.le_of_ble_eq_true rfl) ?_) (ltL_c (ty_TField.lt _ _) (ltL_c (ty_TCounter.lt _ _) (ltL_c ((TyOk.int .i64).lt _ _) ltL_nil))) (lt_tup (ltL_c (ty_TField.lt _ _) (ltL_c ((TyOk.int .i64).lt _ _) ltL_nil)))
  replace h := Ok.of h
  unfold field_changed at h
  refine AWp.seq ?_
  refine W.reg [0, 1, 2, 3] rfl ?_
  refine S.eff 3 rfl rfl (.nf (v2 := .ptr 0 [] 0) (H2 := [.cells (E_TField a1)]) (.box (lk 0 rfl rfl) rfl) rfl rfl) trivial ?_
  refine S.eff 4 rfl rfl (.nf (v2 := .ptr 1 [] 0) (H2 := [.cells (E_TField a1), .cells (E_TCounter a2)]) (.box (lk 2 rfl rfl) rfl) rfl rfl) trivial ?_
  refine S.eff 6 rfl rfl (.nf (v2 := .ptr 2 [] 0) (H2 := [.cells (E_TField a1), .cells (E_TCounter a2), .cells (.st [V.str (default : ByteArray), (V.int .i64) 0, (V.int .i64) 0, E_TCounter (default : TCounter), E_TLock (default : TLock), .nils])]) (.alloc zv42) rfl rfl) trivial ?_
  refine S.sil 7 rfl rfl (fun _ hF => .assign cI) ?_
  refine S.nil ?_
  refine thenQ_n ?_
  refine AWp.wk (Wk.freeze 1 rfl rfl (.same (lk 0 rfl rfl) (.same (lk 1 rfl rfl) (.cons (lk 2 rfl rfl) rfl (.ptr .nil (by first | rfl | omega)) (.same (lk 3 rfl rfl) (.same (lk 6 rfl rfl) .nil))))) (.refl _)) ?_
  refine AWp.seq ?_
  refine W.reg [0, 1, 2] rfl ?_
  refine S.sil 8 rfl rfl (fun _ hF => .loadC sz37 ag37 (lk 2 rfl rfl) (ty_TCounter.fl a2) rfl) ?_
  refine S.sil 9 rfl rfl (fun _ hF => .fieldAddr lay42 rfl rfl (lk 4 rfl rfl)) ?_
  obtain ⟨v4, ev4, h⟩ := h.nam
  refine S.effN rfl rfl (.nf (H2 := [.cells (E_TField v4), .dead, .cells (.st [V.str (default : ByteArray), (V.int .i64) 0, (V.int .i64) 0, E_TCounter (default : TCounter), E_TLock (default : TLock), .nils])]) (.storeP sz37 (lk 0 rfl rfl) (lk 1 rfl rfl) rfl (.refl _) rfl (.st rfl (flL_c (show flen _ = 1 from rfl) (flL_c (show flen _ = 1 from rfl) (flL_c (show flen _ = 1 from rfl) flL_nil))) .nil) (by first | rfl | omega) (.st rfl .nil rfl) (ty_TCounter.fl a2) (ty_TCounter.fl a1.Counter) (congrArg (fun z => ([AObj.cells (E_TField z), .dead, .cells (.st [V.str (default : ByteArray), (V.int .i64) 0, (V.int .i64) 0, E_TCounter (default : TCounter), E_TLock (default : TLock), .nils])] : List AObj)) ev4.symm)) rfl rfl) trivial ?_
  refine S.nil ?_
  refine thenQ_n ?_
  refine AWp.seq ?_
  refine W.reg [0, 1, 2, 3, 4, 5, 6] rfl ?_
  refine S.qui 10 rfl rfl (fun _ => .loadP sz42 ag42 (lk 5 rfl rfl) rfl .nil (by first | rfl | omega) (ty_TField.fl v4) rfl) ?_
  refine S.sil 11 rfl rfl (fun _ hF => .move (lk 7 rfl rfl)) ?_
  obtain ⟨r5, m5, h⟩ := h.bnd
  refine S.sil 12 rfl rfl (fun _ hF => .callQ ent116 cF (.c (lk 1 rfl rfl) (V.sub.refl _) (.c (lk 0 rfl rfl) (V.sub.refl _) .nil)) (C_field_done m5)) ?_
  refine S.sil 13 rfl rfl (fun _ hF => .extract (lk 0 rfl rfl) rfl) ?_
  refine S.sil 14 rfl rfl (fun _ hF => .extract (lk 1 rfl rfl) rfl) ?_
  refine S.effN rfl rfl (.nf (H2 := [.cells (E_TField v4), .dead, .cells (E_TField r5.1)]) (.storeP sz42 (lk 8 rfl rfl) (lk 1 rfl rfl) rfl (.refl _) rfl .nil (by first | rfl | omega) .nil (ty_TField.fl r5.1) (fl_st (flL_c (show flen _ = 1 from rfl) (flL_c (show flen _ = 1 from rfl) (flL_c (show flen _ = 1 from rfl) (flL_c (ty_TCounter.fl (default : TCounter)) (flL_c (ty_TLock.fl (default : TLock)) (flL_c (show flen _ = 1 from rfl) flL_nil))))))) rfl) rfl rfl) trivial ?_
  refine S.sil 7 rfl rfl (fun _ hF => .assign (lk 0 rfl rfl)) ?_
  refine S.nil ?_
  refine thenQ_n ?_
  refine AWp.prune (.eq (lk 0 rfl rfl) rfl (.eq (lk 9 rfl rfl) rfl .nil)) ?_
  refine AWp.ret ?_
  refine endF_wk (Wk.freeze 2 rfl rfl (.same (lk 0 rfl rfl) (.cons (lk 1 rfl rfl) rfl (.ptr .nil (by first | rfl | omega)) .nil)) (.refl _)) ?_
  obtain rfl := h.ret
  exact endFN rfl (Wk.selS [] .nil rfl (SelE.leaf (lk 1 rfl rfl) rfl (.refl _) (fun m => (lt_cptr (ty_TField.lt _ _))) (SelE.leaf (lk 0 rfl rfl) rfl (.refl _) (fun m => ((TyOk.int .i64).lt _ _)) .nil)) .nil) (.cons (.cellC sz42 ag42 (lk 0 rfl rfl) (ty_TField.fl _) rfl) (.cons (.tmp (lk 1 rfl rfl) rfl) .nil)) rfl rfl rfl
theorem C_counter_Dec_1 {a1 : Int} {a2 : Int} {b3 : TCounter} {r : TRights × Int × TCounter} (h : counter_Dec_1 a1 a2 b3 = some r) : CallSpec Pg 152 [.ptr 0 [] 0, .cptr ((V.int .i64) a1), .cptr ((V.int .i64) a2)] [.cells (E_TCounter b3)] fun o H' => o = .ret (.tup [E_TRights r.1, (V.int .i64) r.2.1]) ∧ H' = [.cells (E_TCounter r.2.2)] := by
  refine CallSpec.of_bodyF 12 1 fn152 rfl rfl rfl (Nat.le_of_ble_eq_true rfl) ?_
  replace h := Ok.of h
  unfold counter_Dec_1 at h
  refine AWp.seq ?_
  refine W.reg [0, 1] rfl ?_
  refine S.eff 3 rfl rfl (.nf (v2 := .ptr 1 [] 0) (H2 := [.cells (E_TCounter b3), .cells (E_TRights (default : TRights))]) (.alloc zv35) rfl rfl) trivial ?_
  refine S.sil 4 rfl rfl (fun _ hF => .assign cI) ?_
  refine S.nil ?_
  refine thenQ_n ?_
  refine AWp.seq ?_
  refine W.reg [0, 1, 2, 3, 4, 5, 6, 7, 8] rfl ?_
  refine S.sil 5 rfl rfl (fun _ hF => .fieldAddr lay37 rfl rfl (lk 2 rfl rfl)) ?_
  refine S.qui 6 rfl rfl (fun _ => .loadP sz35 ag35 (lk 0 rfl rfl) rfl (.st rfl (flL_c (show flen _ = 1 from rfl) (flL_c (show flen _ = 1 from rfl) (flL_c (show flen _ = 1 from rfl) flL_nil))) .nil) (by first | rfl | omega) (ty_TRights.fl b3.Down) rfl) ?_
  refine S.sil 7 rfl rfl (fun _ hF => .loadC sz3 ag3 (lk 5 rfl rfl) rfl rfl) ?_
  refine S.sil 8 rfl rfl (fun _ hF => .loadC sz3 ag3 (lk 7 rfl rfl) rfl rfl) ?_
  obtain ⟨r4, m4, h⟩ := h.bnd
  refine S.sil 9 rfl rfl (fun _ hF => .callQ ent147 cF (.c (lk 2 rfl rfl) (V.sub.refl _) (.c (lk 1 rfl rfl) (V.sub.refl _) (.c (lk 0 rfl rfl) (V.sub.refl _) .nil))) (C_rights_Use m4)) ?_
  refine S.sil 10 rfl rfl (fun _ hF => .extract (lk 0 rfl rfl) rfl) ?_
  refine S.sil 11 rfl rfl (fun _ hF => .extract (lk 1 rfl rfl) rfl) ?_
  refine S.effN rfl rfl (.nf (H2 := [.cells (E_TCounter b3), .cells (E_TRights r4.1)]) (.storeP sz35 (lk 8 rfl rfl) (lk 1 rfl rfl) rfl (.refl _) rfl .nil (by first | rfl | omega) .nil (ty_TRights.fl r4.1) (ty_TRights.fl (default : TRights)) rfl) rfl rfl) trivial ?_
  refine S.sil 4 rfl rfl (fun _ hF => .assign (lk 0 rfl rfl)) ?_
  refine S.nil ?_
  refine thenQ_n ?_
  refine AWp.prune (.eq (lk 0 rfl rfl) rfl (.eq (lk 9 rfl rfl) rfl .nil)) ?_
  refine AWp.ret ?_
  refine endF_wk (Wk.freeze 1 rfl rfl (.same (lk 0 rfl rfl) (.cons (lk 1 rfl rfl) rfl (.ptr .nil (by first | rfl | omega)) .nil)) (.refl _)) ?_
  obtain rfl := h.ret
  exact endFN rfl (Wk.selS [0] (by decide) rfl (SelE.leaf (lk 1 rfl rfl) rfl (.refl _) (fun m => (lt_cptr (ty_TRights.lt _ _))) (SelE.leaf (lk 0 rfl rfl) rfl (.refl _) (fun m => ((TyOk.int .i64).lt _ _)) .nil)) (.cons (lt_cells (ty_TCounter.lt _ _)) rfl (RSub.trans (.refl _) (.eq (ty_TCounter.cl _ _).symm)) .nil)) (.cons (.cellC sz35 ag35 (lk 0 rfl rfl) (ty_TRights.fl _) rfl) (.cons (.tmp (lk 1 rfl rfl) rfl) .nil)) rfl rfl rfl
theorem C_counter_Dec_2 {a1 : Int} {a2 : Int} {b3 : TCounter} {r : TRights × Int × TCounter} (h : counter_Dec_2 a1 a2 b3 = some r) : CallSpec Pg 153 [.ptr 0 [] 0, .cptr ((V.int .i64) a1), .cptr ((V.int .i64) a2)] [.cells (E_TCounter b3)] fun o H' => o = .ret (.tup [E_TRights r.1, (V.int .i64) r.2.1]) ∧ H' = [.cells (E_TCounter r.2.2)] := by
  refine CallSpec.of_bodyF 12 1 fn153 rfl rfl rfl (Nat.le_of_ble_eq_true rfl) ?_
  replace h := Ok.of h
  unfold counter_Dec_2 at h
  refine AWp.seq ?_
  refine W.reg [0, 1] rfl ?_
  refine S.eff 3 rfl rfl (.nf (v2 := .ptr 1 [] 0) (H2 := [.cells (E_TCounter b3), .cells (E_TRights (default : TRights))]) (.alloc zv35) rfl rfl) trivial ?_
  refine S.sil 4 rfl rfl (fun _ hF => .assign cI) ?_
  refine S.nil ?_
  refine thenQ_n ?_
  refine AWp.seq ?_
  refine W.reg [0, 1, 2, 3, 4, 5, 6, 7, 8] rfl ?_
  refine S.sil 5 rfl rfl (fun _ hF => .fieldAddr lay37 rfl rfl (lk 2 rfl rfl)) ?_
  refine S.qui 6 rfl rfl (fun _ => .loadP sz35 ag35 (lk 0 rfl rfl) rfl (.st rfl (flL_c (show flen _ = 1 from rfl) (flL_c (show flen _ = 1 from rfl) (flL_c (show flen _ = 1 from rfl) (flL_c (ty_TRights.fl b3.Down) flL_nil)))) .nil) (by first | rfl | omega) (ty_TRights.fl b3.Up) rfl) ?_
  refine S.sil 7 rfl rfl (fun _ hF => .loadC sz3 ag3 (lk 5 rfl rfl) rfl rfl) ?_
  refine S.sil 8 rfl rfl (fun _ hF => .loadC sz3 ag3 (lk 7 rfl rfl) rfl rfl) ?_
  obtain ⟨r4, m4, h⟩ := h.bnd
  refine S.sil 9 rfl rfl (fun _ hF => .callQ ent149 cF (.c (lk 2 rfl rfl) (V.sub.refl _) (.c (lk 1 rfl rfl) (V.sub.refl _) (.c (lk 0 rfl rfl) (V.sub.refl _) .nil))) (C_rights_Give m4)) ?_
  refine S.sil 10 rfl rfl (fun _ hF => .extract (lk 0 rfl rfl) rfl) ?_
  refine S.sil 11 rfl rfl (fun _ hF => .extract (lk 1 rfl rfl) rfl) ?_
  refine S.effN rfl rfl (.nf (H2 := [.cells (E_TCounter b3), .cells (E_TRights r4.1)]) (.storeP sz35 (lk 8 rfl rfl) (lk 1 rfl rfl) rfl (.refl _) rfl .nil (by first | rfl | omega) .nil (ty_TRights.fl r4.1) (ty_TRights.fl (default : TRights)) rfl) rfl rfl) trivial ?_
  refine S.sil 4 rfl rfl (fun _ hF => .assign (lk 0 rfl rfl)) ?_
  refine S.nil ?_
  refine thenQ_n ?_
  refine AWp.prune (.eq (lk 0 rfl rfl) rfl (.eq (lk 9 rfl rfl) rfl .nil)) ?_
  refine AWp.ret ?_
  refine endF_wk (Wk.freeze 1 rfl rfl (.same (lk 0 rfl rfl) (.cons (lk 1 rfl rfl) rfl (.ptr .nil (by first | rfl | omega)) .nil)) (.refl _)) ?_
  obtain rfl := h.ret
  exact endFN rfl (Wk.selS [0] (by decide) rfl (SelE.leaf (lk 1 rfl rfl) rfl (.refl _) (fun m => (lt_cptr (ty_TRights.lt _ _))) (SelE.leaf (lk 0 rfl rfl) rfl (.refl _) (fun m => ((TyOk.int .i64).lt _ _)) .nil)) (.cons (lt_cells (ty_TCounter.lt _ _)) rfl (RSub.trans (.refl _) (.eq (ty_TCounter.cl _ _).symm)) .nil)) (.cons (.cellC sz35 ag35 (lk 0 rfl rfl) (ty_TRights.fl _) rfl) (.cons (.tmp (lk 1 rfl rfl) rfl) .nil)) rfl rfl rfl
theorem C_counter_Dec_3 {a1 : TRights} {a2 : TRights} {b3 : TCounter} {r : TCounter} (h : counter_Dec_3 a1 a2 b3 = some r) : CallSpec Pg 154 [E_TRights a1, E_TRights a2, .ptr 0 [] 0] [.cells (E_TCounter b3)] fun o H' => o = .ret (.tup []) ∧ H' = [.cells (E_TCounter r)] := by
  refine CallSpec.of_bodyF 9 1 fn154 rfl rfl rfl (Nat.le_of_ble_eq_true rfl) ?_
  replace h := Ok.of h
  unfold counter_Dec_3 at h
  refine AWp.seq ?_
  refine W.reg [0, 1] rfl ?_
  refine S.eff 3 rfl rfl (.nf (v2 := .ptr 1 [] 0) (H2 := [.cells (E_TCounter b3), .cells (E_TRights a1)]) (.box (lk 0 rfl rfl) rfl) rfl rfl) trivial ?_
  refine S.eff 4 rfl rfl (.nf (v2 := .ptr 2 [] 0) (H2 := [.cells (E_TCounter b3), .cells (E_TRights a1), .cells (E_TRights a2)]) (.box (lk 2 rfl rfl) rfl) rfl rfl) trivial ?_
  refine S.nil ?_
  refine thenQ_n ?_
  refine AWp.wk (Wk.freeze 1 rfl rfl (.same (lk 0 rfl rfl) (.cons (lk 1 rfl rfl) rfl (.ptr .nil (by first | rfl | omega)) (.same (lk 4 rfl rfl) .nil))) (.refl _)) ?_
  refine AWp.wk (Wk.freeze 2 rfl rfl (.cons (lk 0 rfl rfl) rfl (.ptr .nil (by first | rfl | omega)) (.same (lk 1 rfl rfl) (.same (lk 2 rfl rfl) .nil))) (.refl _)) ?_
  refine W.regD [0, 1, 2, 3, 4, 5] mixed ?_
  refine S.sil 5 rfl rfl (fun _ hF => .loadC sz35 ag35 (lk 1 rfl rfl) (ty_TRights.fl a1) rfl) ?_
  refine S.sil 6 rfl rfl (fun _ hF => .loadC sz35 ag35 (lk 1 rfl rfl) (ty_TRights.fl a2) rfl) ?_
  refine S.sil 7 rfl rfl (fun _ hF => .fieldAddr lay37 rfl rfl (lk 4 rfl rfl)) ?_
  obtain ⟨v4, ev4, h⟩ := h.nam
  refine S.effN rfl rfl (.storeP sz35 (lk 0 rfl rfl) (lk 2 rfl rfl) rfl (.refl _) rfl (.st rfl (flL_c (show flen _ = 1 from rfl) (flL_c (show flen _ = 1 from rfl) (flL_c (show flen _ = 1 from rfl) flL_nil))) .nil) (by first | rfl | omega) (.st rfl .nil rfl) (ty_TRights.fl a1) (ty_TRights.fl b3.Down) (congrArg (fun z => ([AObj.cells (E_TCounter z), .dead, .dead] : List AObj)) ev4.symm)) trivial ?_
  refine S.sil 8 rfl rfl (fun _ hF => .fieldAddr lay37 rfl rfl (lk 5 rfl rfl)) ?_
  obtain ⟨v5, ev5, h⟩ := h.nam
  refine S.effN rfl rfl (.storeP sz35 (lk 0 rfl rfl) (lk 2 rfl rfl) rfl (.refl _) rfl (.st rfl (flL_c (show flen _ = 1 from rfl) (flL_c (show flen _ = 1 from rfl) (flL_c (show flen _ = 1 from rfl) (flL_c (ty_TRights.fl v4.Down) flL_nil)))) .nil) (by first | rfl | omega) (.st rfl .nil rfl) (ty_TRights.fl a2) (ty_TRights.fl v4.Up) (congrArg (fun z => ([AObj.cells (E_TCounter z), .dead, .dead] : List AObj)) ev5.symm)) trivial ?_
  refine S.nilD (by kernel_rfl) ?_
  refine endF_n ?_
  obtain rfl := h.ret
  exact endFN rfl (Wk.selS [0] (by decide) rfl .nil (.cons (lt_cells (ty_TCounter.lt _ _)) rfl (RSub.trans (.refl _) (.eq (ty_TCounter.cl _ _).symm)) .nil)) .nil rfl rfl rfl
theorem C_counter_both_Dec_1_Dec_2_Dec_3 {a1 : TCounter} {a2 : Int} {a3 : Int} {a4 : Int} {a5 : Int} {b6 : TCounter} {r : Int × TCounter} (h : counter_both_Dec_1_Dec_2_Dec_3 a1 a2 a3 a4 a5 b6 = some r) : CallSpec Pg 145 [E_TCounter a1, .fn 152 [] [.ptr 0 [] 0, .cptr ((V.int .i64) a2), .cptr ((V.int .i64) a3)], .fn 153 [] [.ptr 0 [] 0, .cptr ((V.int .i64) a4), .cptr ((V.int .i64) a5)], .fn 154 [] [.ptr 0 [] 0]] [.cells (E_TCounter b6)] fun o H' => o = .ret ((V.int .i64) r.1) ∧ H' = [.cells (E_TCounter r.2)] := by
  refine CallSpec.of_bodyF 32 1 fn145 rfl rfl rfl (Nat.le_of_ble_eq_true rfl) ?_
  replace h := Ok.of h
  unfold counter_both_Dec_1_Dec_2_Dec_3 at h
  refine AWp.seq ?_
  refine W.reg [0, 1] rfl ?_
  refine S.eff 4 rfl rfl (.nf (v2 := .ptr 1 [] 0) (H2 := [.cells (E_TCounter b6), .cells (E_TCounter a1)]) (.box (lk 0 rfl rfl) rfl) rfl rfl) trivial ?_
  refine S.sil 8 rfl rfl (fun _ hF => .assign cI) ?_
  refine S.nil ?_
  refine thenQ_n ?_
  refine AWp.wk (Wk.freeze 1 rfl rfl (.same (lk 0 rfl rfl) (.same (lk 3 rfl rfl) (.same (lk 4 rfl rfl) (.same (lk 5 rfl rfl) .nil)))) (.refl _)) ?_
  refine AWp.seq ?_
  refine W.reg [0, 1, 2, 3, 4, 5, 6, 7] rfl ?_
  refine S.sil 13 rfl rfl (fun _ hF => .move (lk 1 rfl rfl)) ?_
  obtain ⟨r7, m7, h⟩ := h.bnd
  refine S.eff 14 rfl rfl (.nf (v2 := .tup [E_TRights r7.1, (V.int .i64) r7.2.1]) (H2 := [.cells (E_TCounter r7.2.2), .dead]) (.callH ent152 (lk 0 rfl rfl) [0] (C_counter_Dec_1 m7) (by decide) (.cons (lt_cells (ty_TCounter.lt _ _)) rfl (RSub.trans (.refl _) (.eq (ty_TCounter.cl _ _).symm)) .nil) (ltL_c rfl (ltL_c (lt_cptr ((TyOk.int .i64).lt _ _)) (ltL_c (lt_cptr ((TyOk.int .i64).lt _ _)) ltL_nil))) (.cons (subren rfl) (.cons (vsubr (V.sub.refl _) (lt_cptr ((TyOk.int .i64).lt _ _))) (.cons (vsubr (V.sub.refl _) (lt_cptr ((TyOk.int .i64).lt _ _))) .nil))) (ren_tup (renL_c (ty_TRights.cl _ _) (renL_c ((TyOk.int .i64).cl _ _) rfl))) (mapc (ren_cells (ty_TCounter.cl _ _)) rfl) rfl) rfl rfl) trivial ?_
  refine S.sil 12 rfl rfl (fun _ hF => .move (lk 0 rfl rfl)) ?_
  refine S.sil 15 rfl rfl (fun _ hF => .extract (lk 0 rfl rfl) rfl) ?_
  refine S.sil 16 rfl rfl (fun _ hF => .extract (lk 1 rfl rfl) rfl) ?_
  refine S.eff 9 rfl rfl (.nf (v2 := .ptr 2 [] 0) (H2 := [.cells (E_TCounter r7.2.2), .dead, .cells (E_TRights (default : TRights))]) (.alloc zv35) rfl rfl) trivial ?_
  refine S.effN rfl rfl (.nf (H2 := [.cells (E_TCounter r7.2.2), .dead, .cells (E_TRights r7.1)]) (.storeP sz35 (lk 0 rfl rfl) (lk 2 rfl rfl) rfl (.refl _) rfl .nil (by first | rfl | omega) .nil (ty_TRights.fl r7.1) (ty_TRights.fl (default : TRights)) rfl) rfl rfl) trivial ?_
  refine S.sil 10 rfl rfl (fun _ hF => .assign (lk 1 rfl rfl)) ?_
  refine S.nil ?_
  refine thenQ_n ?_
  refine AWp.wk (Wk.freeze 2 rfl rfl (.same (lk 0 rfl rfl) (.cons (lk 1 rfl rfl) rfl (.ptr .nil (by first | rfl | omega)) (.same (lk 7 rfl rfl) (.same (lk 9 rfl rfl) (.same (lk 10 rfl rfl) .nil))))) (.refl _)) ?_
  refine AWp.seq ?_
  refine AWp.seq ?_
  refine W.reg [0, 1] rfl ?_
  refine S.sil 17 rfl rfl (fun _ hF => .move (lk 0 rfl rfl)) ?_
  refine S.sil 18 rfl rfl (fun _ hF => .neq (lk 0 rfl rfl) cI) ?_
  refine S.nil ?_
  refine thenQ_n ?_
  refine AWp.condM (lk 0 rfl rfl) h (fun c1 h => ?_) (fun c1 h => ?_)
  · skip
    refine AWp.seq ?_
    refine W.reg [0, 1] rfl ?_
    refine S.sil 19 rfl rfl (fun _ hF => .move (lk 2 rfl rfl)) ?_
    refine S.sil 8 rfl rfl (fun _ hF => .assign (lk 0 rfl rfl)) ?_
    refine S.nil ?_
    refine thenQ_n ?_
    refine AWp.ret ?_
    refine thenQ_r ?_
    obtain rfl := h.ret
    exact endF1 rfl (Wk.selS [0] (by decide) rfl (SelE.leaf (lk 0 rfl rfl) rfl (.refl _) (fun m => ((TyOk.int .i64).lt _ _)) .nil) (.cons (lt_cells (ty_TCounter.lt _ _)) rfl (RSub.trans (.refl _) (.eq (ty_TCounter.cl _ _).symm)) .nil)) (.tmp (lk 0 rfl rfl) rfl) rfl rfl
  · skip
    refine AWp.skip ?_
    refine thenQ_n ?_
    refine AWp.seq ?_
    refine W.reg [0, 1, 2, 3, 4, 5, 6, 7] rfl ?_
    refine S.sil 21 rfl rfl (fun _ hF => .move (lk 5 rfl rfl)) ?_
    obtain ⟨r8, m8, h⟩ := h.bnd
    refine S.eff 22 rfl rfl (.nf (v2 := .tup [E_TRights r8.1, (V.int .i64) r8.2.1]) (H2 := [.cells (E_TCounter r8.2.2), .dead, .dead]) (.callH ent153 (lk 0 rfl rfl) [0] (C_counter_Dec_2 m8) (by decide) (.cons (lt_cells (ty_TCounter.lt _ _)) rfl (RSub.trans (.refl _) (.eq (ty_TCounter.cl _ _).symm)) .nil) (ltL_c rfl (ltL_c (lt_cptr ((TyOk.int .i64).lt _ _)) (ltL_c (lt_cptr ((TyOk.int .i64).lt _ _)) ltL_nil))) (.cons (subren rfl) (.cons (vsubr (V.sub.refl _) (lt_cptr ((TyOk.int .i64).lt _ _))) (.cons (vsubr (V.sub.refl _) (lt_cptr ((TyOk.int .i64).lt _ _))) .nil))) (ren_tup (renL_c (ty_TRights.cl _ _) (renL_c ((TyOk.int .i64).cl _ _) rfl))) (mapc (ren_cells (ty_TCounter.cl _ _)) rfl) rfl) rfl rfl) trivial ?_
    refine S.sil 20 rfl rfl (fun _ hF => .move (lk 0 rfl rfl)) ?_
    refine S.sil 23 rfl rfl (fun _ hF => .extract (lk 0 rfl rfl) rfl) ?_
    refine S.sil 24 rfl rfl (fun _ hF => .extract (lk 1 rfl rfl) rfl) ?_
    refine S.eff 11 rfl rfl (.nf (v2 := .ptr 3 [] 0) (H2 := [.cells (E_TCounter r8.2.2), .dead, .dead, .cells (E_TRights (default : TRights))]) (.alloc zv35) rfl rfl) trivial ?_
    refine S.effN rfl rfl (.nf (H2 := [.cells (E_TCounter r8.2.2), .dead, .dead, .cells (E_TRights r8.1)]) (.storeP sz35 (lk 0 rfl rfl) (lk 2 rfl rfl) rfl (.refl _) rfl .nil (by first | rfl | omega) .nil (ty_TRights.fl r8.1) (ty_TRights.fl (default : TRights)) rfl) rfl rfl) trivial ?_
    refine S.sil 10 rfl rfl (fun _ hF => .assign (lk 1 rfl rfl)) ?_
    refine S.nil ?_
    refine thenQ_n ?_
    refine AWp.wk (Wk.freeze 3 rfl rfl (.same (lk 0 rfl rfl) (.cons (lk 1 rfl rfl) rfl (.ptr .nil (by first | rfl | omega)) (.same (lk 10 rfl rfl) (.same (lk 11 rfl rfl) (.same (lk 13 rfl rfl) .nil))))) (.refl _)) ?_
    refine AWp.seq ?_
    refine AWp.seq ?_
    refine W.reg [0, 1] rfl ?_
    refine S.sil 25 rfl rfl (fun _ hF => .move (lk 0 rfl rfl)) ?_
    refine S.sil 26 rfl rfl (fun _ hF => .eql (lk 0 rfl rfl) cI) ?_
    refine S.nil ?_
    refine thenQ_n ?_
    refine AWp.condM (lk 0 rfl rfl) h (fun c2 h => ?_) (fun c2 h => ?_)
    · skip
      refine W.reg [0, 1, 2, 3] rfl ?_
      refine S.sil 27 rfl rfl (fun _ hF => .move (lk 6 rfl rfl)) ?_
      refine S.sil 28 rfl rfl (fun _ hF => .loadC sz35 ag35 (lk 5 rfl rfl) (ty_TRights.fl r7.1) rfl) ?_
      refine S.sil 29 rfl rfl (fun _ hF => .loadC sz35 ag35 (lk 5 rfl rfl) (ty_TRights.fl r8.1) rfl) ?_
      obtain ⟨r9, m9, h⟩ := h.bnd
      refine S.eff 30 rfl rfl (.nf (H2 := [.cells (E_TCounter r9), .dead, .dead, .dead]) (.callH ent154 (lk 2 rfl rfl) [0] (C_counter_Dec_3 m9) (by decide) (.cons (lt_cells (ty_TCounter.lt _ _)) rfl (RSub.trans (.refl _) (.eq (ty_TCounter.cl _ _).symm)) .nil) (ltL_c (ty_TRights.lt _ _) (ltL_c (ty_TRights.lt _ _) (ltL_c rfl ltL_nil))) (.c (lk 1 rfl rfl) (vsubr (V.sub.refl _) (ty_TRights.lt _ _)) (.c (lk 0 rfl rfl) (vsubr (V.sub.refl _) (ty_TRights.lt _ _)) (.cons (subren rfl) .nil))) (ren_tup rfl) (mapc (ren_cells (ty_TCounter.cl _ _)) rfl) rfl) rfl rfl) trivial ?_
      refine S.nil ?_
      refine thenQ_n ?_
      refine AWp.seq ?_
      refine W.reg [0, 1] rfl ?_
      refine S.sil 31 rfl rfl (fun _ hF => .move (lk 6 rfl rfl)) ?_
      refine S.sil 8 rfl rfl (fun _ hF => .assign (lk 0 rfl rfl)) ?_
      refine S.nil ?_
      refine thenQ_n ?_
      refine AWp.prune (.eq (lk 0 rfl rfl) rfl .nil) ?_
      refine AWp.ret ?_
      obtain rfl := h.ret
      exact endF1 rfl (Wk.selS [0] (by decide) rfl (SelE.leaf (lk 0 rfl rfl) rfl (.refl _) (fun m => ((TyOk.int .i64).lt _ _)) .nil) (.cons (lt_cells (ty_TCounter.lt _ _)) rfl (RSub.trans (.refl _) (.eq (ty_TCounter.cl _ _).symm)) .nil)) (.tmp (lk 0 rfl rfl) rfl) rfl rfl
    · skip
      refine AWp.skip ?_
      refine thenQ_n ?_
      refine AWp.seq ?_
      refine W.reg [0, 1] rfl ?_
      refine S.sil 31 rfl rfl (fun _ hF => .move (lk 2 rfl rfl)) ?_
      refine S.sil 8 rfl rfl (fun _ hF => .assign (lk 0 rfl rfl)) ?_
      refine S.nil ?_
      refine thenQ_n ?_
      refine AWp.ret ?_
      obtain rfl := h.ret
      exact endF1 rfl (Wk.selS [0] (by decide) rfl (SelE.leaf (lk 0 rfl rfl) rfl (.refl _) (fun m => ((TyOk.int .i64).lt _ _)) .nil) (.cons (lt_cells (ty_TCounter.lt _ _)) rfl (RSub.trans (.refl _) (.eq (ty_TCounter.cl _ _).symm)) .nil)) (.tmp (lk 0 rfl rfl) rfl) rfl rfl
theorem C_counter_Dec {a1 : TCounter} {a2 : Int} {a3 : Int} {r : TCounter × Int} (h : counter_Dec a1 a2 a3 = some r) : PureC Pg 79 [E_TCounter a1, (V.int .i64) a2, (V.int .i64) a3] (.tup [E_TCounter r.1, (V.int .i64) r.2]) := by
  refine PureC.ofF (CallSpec.of_bodyF 19 0 fn79 rfl rfl rfl (Nat.le_of_ble_eq_true rfl) ?_) (ltL_c (ty_TCounter.lt _ _) (ltL_c ((TyOk.int .i64).lt _ _) (ltL_c ((TyOk.int .i64).lt _ _) ltL_nil))) (lt_tup (ltL_c (ty_TCounter.lt _ _) (ltL_c ((TyOk.int .i64).lt _ _) ltL_nil)))
  replace h := Ok.of h
  unfold counter_Dec at h
  refine AWp.seq ?_
  refine W.reg [0, 1, 2, 3, 4] rfl ?_
  refine S.eff 3 rfl rfl (.nf (v2 := .ptr 0 [] 0) (H2 := [.cells (E_TCounter a1)]) (.box (lk 0 rfl rfl) rfl) rfl rfl) trivial ?_
  refine S.eff 4 rfl rfl (.nf (v2 := .ptr 1 [] 0) (H2 := [.cells (E_TCounter a1), .cells ((V.int .i64) a2)]) (.box (lk 2 rfl rfl) rfl) rfl rfl) trivial ?_
  refine S.eff 5 rfl rfl (.nf (v2 := .ptr 2 [] 0) (H2 := [.cells (E_TCounter a1), .cells ((V.int .i64) a2), .cells ((V.int .i64) a3)]) (.box (lk 4 rfl rfl) rfl) rfl rfl) trivial ?_
  refine S.eff 6 rfl rfl (.nf (v2 := .ptr 3 [] 0) (H2 := [.cells (E_TCounter a1), .cells ((V.int .i64) a2), .cells ((V.int .i64) a3), .cells (E_TCounter (default : TCounter))]) (.alloc zv37) rfl rfl) trivial ?_
  refine S.sil 7 rfl rfl (fun _ hF => .assign cI) ?_
  refine S.nil ?_
  refine thenQ_n ?_
  refine AWp.wk (Wk.freeze 1 rfl rfl (.same (lk 0 rfl rfl) (.same (lk 1 rfl rfl) (.same (lk 2 rfl rfl) (.cons (lk 3 rfl rfl) rfl (.ptr .nil (by first | rfl | omega)) (.same (lk 4 rfl rfl) .nil))))) (.refl _)) ?_
  refine AWp.wk (Wk.freeze 2 rfl rfl (.same (lk 0 rfl rfl) (.same (lk 1 rfl rfl) (.cons (lk 2 rfl rfl) rfl (.ptr .nil (by first | rfl | omega)) (.same (lk 3 rfl rfl) (.same (lk 4 rfl rfl) .nil))))) (.refl _)) ?_
  refine AWp.seq ?_
  refine W.reg [0, 1, 2, 3, 4, 5] rfl ?_
  refine S.qui 9 rfl rfl (fun _ => .loadP sz37 ag37 (lk 4 rfl rfl) rfl .nil (by first | rfl | omega) (ty_TCounter.fl a1) rfl) ?_
  refine S.sil 10 rfl rfl (fun _ hF => .makeFunc rfl (mapE3 (lk 5 rfl rfl) (lk 4 rfl rfl) (lk 3 rfl rfl)) rfl rfl) ?_
  refine S.sil 11 rfl rfl (fun _ hF => .makeFunc rfl (mapE3 (lk 6 rfl rfl) (lk 5 rfl rfl) (lk 4 rfl rfl)) rfl rfl) ?_
  refine S.sil 12 rfl rfl (fun _ hF => .makeFunc rfl (mapE1 (lk 7 rfl rfl)) rfl rfl) ?_
  obtain ⟨r4, m4, h⟩ := h.bnd
  refine S.eff 13 rfl rfl (.nf (v2 := (V.int .i64) r4.1) (H2 := [.cells (E_TCounter r4.2), .dead, .dead, .cells (E_TCounter (default : TCounter))]) (.callH ent145 cF [0] (C_counter_both_Dec_1_Dec_2_Dec_3 m4) (by decide) (.cons (lt_cells (ty_TCounter.lt _ _)) rfl (RSub.trans (.refl _) (.eq (ty_TCounter.cl _ _).symm)) .nil) (ltL_c (ty_TCounter.lt _ _) (ltL_c (lt_fn ltL_nil (ltL_c rfl (ltL_c (lt_cptr ((TyOk.int .i64).lt _ _)) (ltL_c (lt_cptr ((TyOk.int .i64).lt _ _)) ltL_nil)))) (ltL_c (lt_fn ltL_nil (ltL_c rfl (ltL_c (lt_cptr ((TyOk.int .i64).lt _ _)) (ltL_c (lt_cptr ((TyOk.int .i64).lt _ _)) ltL_nil)))) (ltL_c (lt_fn ltL_nil (ltL_c rfl ltL_nil)) ltL_nil)))) (.c (lk 3 rfl rfl) (vsubr (V.sub.refl _) (ty_TCounter.lt _ _)) (.c (lk 2 rfl rfl) (subren (ren_fn rfl (renL_c rfl (renL_c (ren_cptr ((TyOk.int .i64).cl _ _)) (renL_c (ren_cptr ((TyOk.int .i64).cl _ _)) rfl))))) (.c (lk 1 rfl rfl) (subren (ren_fn rfl (renL_c rfl (renL_c (ren_cptr ((TyOk.int .i64).cl _ _)) (renL_c (ren_cptr ((TyOk.int .i64).cl _ _)) rfl))))) (.c (lk 0 rfl rfl) (subren (ren_fn rfl (renL_c rfl rfl))) .nil)))) ((TyOk.int .i64).cl _ _) (mapc (ren_cells (ty_TCounter.cl _ _)) rfl) rfl) rfl rfl) trivial ?_
  refine S.sil 8 rfl rfl (fun _ hF => .assign (lk 0 rfl rfl)) ?_
  refine S.nil ?_
  refine thenQ_n ?_
  refine AWp.seq ?_
  refine W.reg [0, 1, 2, 3, 4, 5, 6] rfl ?_
  refine S.qui 14 rfl rfl (fun _ => .loadP sz37 ag37 (lk 10 rfl rfl) rfl .nil (by first | rfl | omega) (ty_TCounter.fl r4.2) rfl) ?_
  refine S.sil 15 rfl rfl (fun _ hF => .move (lk 1 rfl rfl)) ?_
  obtain ⟨r5, m5, h⟩ := h.bnd
  refine S.sil 16 rfl rfl (fun _ hF => .callQ ent151 cF (.c (lk 1 rfl rfl) (V.sub.refl _) (.c (lk 0 rfl rfl) (V.sub.refl _) .nil)) (C_counter_done m5)) ?_
  refine S.sil 17 rfl rfl (fun _ hF => .extract (lk 0 rfl rfl) rfl) ?_
  refine S.sil 18 rfl rfl (fun _ hF => .extract (lk 1 rfl rfl) rfl) ?_
  refine S.effN rfl rfl (.nf (H2 := [.cells (E_TCounter r4.2), .dead, .dead, .cells (E_TCounter r5.1)]) (.storeP sz37 (lk 12 rfl rfl) (lk 1 rfl rfl) rfl (.refl _) rfl .nil (by first | rfl | omega) .nil (ty_TCounter.fl r5.1) (ty_TCounter.fl (default : TCounter)) rfl) rfl rfl) trivial ?_
  refine S.sil 7 rfl rfl (fun _ hF => .assign (lk 0 rfl rfl)) ?_
  refine S.nil ?_
  refine thenQ_n ?_
  refine AWp.prune (.eq (lk 0 rfl rfl) rfl (.eq (lk 13 rfl rfl) rfl .nil)) ?_
  refine AWp.ret ?_
  refine endF_wk (Wk.freeze 3 rfl rfl (.same (lk 0 rfl rfl) (.cons (lk 1 rfl rfl) rfl (.ptr .nil (by first | rfl | omega)) .nil)) (.refl _)) ?_
  obtain rfl := h.ret
  exact endFN rfl (Wk.selS [] .nil rfl (SelE.leaf (lk 1 rfl rfl) rfl (.refl _) (fun m => (lt_cptr (ty_TCounter.lt _ _))) (SelE.leaf (lk 0 rfl rfl) rfl (.refl _) (fun m => ((TyOk.int .i64).lt _ _)) .nil)) .nil) (.cons (.cellC sz37 ag37 (lk 0 rfl rfl) (ty_TCounter.fl _) rfl) (.cons (.tmp (lk 1 rfl rfl) rfl) .nil)) rfl rfl rfl
theorem C_field_Add {a1 : TField} {a2 : Int} {a3 : Int} {r : TField × Int} (h : field_Add a1 a2 a3 = some r) : PureC Pg 24 [E_TField a1, (V.int .i64) a2, (V.int .i64) a3] (.tup [E_TField r.1, (V.int .i64) r.2]) := by
  refine PureC.ofF (CallSpec.of_bodyF 66 0 fn24 rfl rfl rfl (Nat.le_of_ble_eq_true rfl) ?_) (ltL_c (ty_TField.lt _ _) (ltL_c ((TyOk.int .i64).lt _ _) (ltL_c ((TyOk.int .i64).lt _ _) ltL_nil))) (lt_tup (ltL_c (ty_TField.lt _ _) (ltL_c ((TyOk.int .i64).lt _ _) ltL_nil)))
  replace h := Ok.of h
  unfold field_Add at h
  refine AWp.seq ?_
  refine W.reg [0, 1, 2] rfl ?_
  refine S.eff 3 rfl rfl (.nf (v2 := .ptr 0 [] 0) (H2 := [.cells (E_TField a1)]) (.box (lk 0 rfl rfl) rfl) rfl rfl) trivial ?_
  refine S.eff 6 rfl rfl (.nf (v2 := .ptr 1 [] 0) (H2 := [.cells (E_TField a1), .cells (.st [V.str (default : ByteArray), (V.int .i64) 0, (V.int .i64) 0, E_TCounter (default : TCounter), E_TLock (default : TLock), .nils])]) (.alloc zv42) rfl rfl) trivial ?_
  refine S.sil 7 rfl rfl (fun _ hF => .assign cI) ?_
  refine S.nil ?_
  refine thenQ_n ?_
  refine AWp.wk (Wk.freeze 0 rfl rfl (.same (lk 0 rfl rfl) (.same (lk 1 rfl rfl) (.cons (lk 2 rfl rfl) rfl (.ptr .nil (by first | rfl | omega)) (.same (lk 4 rfl rfl) (.same (lk 5 rfl rfl) .nil))))) (.refl _)) ?_
  refine AWp.seq ?_
  refine AWp.seq ?_
  refine W.reg [0, 1] rfl ?_
  refine S.sil 13 rfl rfl (fun _ hF => .move (lk 4 rfl rfl)) ?_
  refine S.sil 14 rfl rfl (fun _ hF => .geq (lk 0 rfl rfl) cI) ?_
  refine S.nil ?_
  refine thenQ_n ?_
  refine AWp.condM (lk 0 rfl rfl) h (fun c1 h => ?_) (fun c1 h => ?_)
  · skip
    refine AWp.seq ?_
    refine AWp.seq ?_
    refine W.reg [0, 1, 2] rfl ?_
    refine S.sil 15 rfl rfl (fun _ hF => .fieldAddrC lay42 rfl rfl (lk 4 rfl rfl) rfl (flL_c (show flen _ = 1 from rfl) flL_nil)) ?_
    refine S.sil 16 rfl rfl (fun _ hF => .loadC sz3 ag3 (lk 0 rfl rfl) rfl rfl) ?_
    refine S.sil 17 rfl rfl (fun _ hF => .neq (lk 0 rfl rfl) cI) ?_
    refine S.nil ?_
    refine thenQ_n ?_
    refine AWp.condM (lk 0 rfl rfl) h (fun c2 h => ?_) (fun c2 h => ?_)
    · skip
      refine AWp.seq ?_
      refine W.reg [0, 1, 2] rfl ?_
      obtain ⟨v4, ev4, h⟩ := h.nam
      refine S.sil 18 rfl rfl (fun _ hF => .nv (.vs (v := .st [V.str (default : ByteArray), (V.int .i64) 0, (V.int .i64) 0, E_TCounter (default : TCounter), E_TLock (default : TLock), .nils]) (v2 := E_TField (⟨(default : ByteArray), 0, 0, (default : TCounter), (default : TLock), ([] : List THold)⟩ : TField)) (.buildStW lay42 zv42 rfl .nil) rfl (.st (.cons (.refl _) (.cons (.refl _) (.cons (.refl _) (.cons (.refl _) (.cons (.refl _) (.cons (.nils_no _) .nil)))))))) (congrArg E_TField ev4.symm)) ?_
      refine S.effN rfl rfl (.nf (H2 := [.dead, .cells (E_TField v4)]) (.storeP sz42 (lk 7 rfl rfl) (lk 0 rfl rfl) rfl (.refl _) rfl .nil (by first | rfl | omega) .nil (ty_TField.fl v4) (fl_st (flL_c (show flen _ = 1 from rfl) (flL_c (show flen _ = 1 from rfl) (flL_c (show flen _ = 1 from rfl) (flL_c (ty_TCounter.fl (default : TCounter)) (flL_c (ty_TLock.fl (default : TLock)) (flL_c (show flen _ = 1 from rfl) flL_nil))))))) rfl) rfl rfl) trivial ?_
      refine S.sil 7 rfl rfl (fun _ hF => .assign cI) ?_
      refine S.nil ?_
      refine thenQ_n ?_
      refine AWp.ret ?_
      refine thenQ_r ?_
      refine thenQ_r ?_
      refine endF_wk (Wk.freeze 1 rfl rfl (.same (lk 0 rfl rfl) (.same (lk 0 rfl rfl) (.cons (lk 8 rfl rfl) rfl (.ptr .nil (by first | rfl | omega)) .nil))) (.refl _)) ?_
      obtain rfl := h.ret
      exact endFN rfl (Wk.selS [] .nil rfl (SelE.leaf (lk 2 rfl rfl) rfl (.refl _) (fun m => (lt_cptr (ty_TField.lt _ _))) (SelE.leaf (lk 0 rfl rfl) rfl (.refl _) (fun m => ((TyOk.int .i64).lt _ _)) .nil)) .nil) (.cons (.cellC sz42 ag42 (lk 0 rfl rfl) (ty_TField.fl _) rfl) (.cons (.tmp (lk 1 rfl rfl) rfl) .nil)) rfl rfl rfl
    · skip
      refine AWp.skip ?_
      refine thenQ_n ?_
      refine AWp.seq ?_
      refine W.reg [0, 1, 2, 3, 4, 5, 6, 7, 8, 9, 10] rfl ?_
      refine S.sil 20 rfl rfl (fun _ hF => .fieldAddrC lay42 rfl rfl (lk 7 rfl rfl) rfl (flL_c (show flen _ = 1 from rfl) (flL_c (show flen _ = 1 from rfl) (flL_c (show flen _ = 1 from rfl) flL_nil)))) ?_
      refine S.sil 21 rfl rfl (fun _ hF => .loadC sz37 ag37 (lk 0 rfl rfl) (ty_TCounter.fl a1.Counter) rfl) ?_
      refine S.sil 22 rfl rfl (fun _ hF => .move (lk 10 rfl rfl)) ?_
      refine S.sil 23 rfl rfl (fun _ hF => .move (lk 12 rfl rfl)) ?_
      obtain ⟨r5, m5, h⟩ := h.bnd
      refine S.sil 24 rfl rfl (fun _ hF => .callQ ent75 cF (.c (lk 2 rfl rfl) (V.sub.refl _) (.c (lk 1 rfl rfl) (V.sub.refl _) (.c (lk 0 rfl rfl) (V.sub.refl _) .nil))) (C_counter_Inc m5)) ?_
      refine S.sil 19 rfl rfl (fun _ hF => .move (lk 0 rfl rfl)) ?_
      refine S.sil 25 rfl rfl (fun _ hF => .extract (lk 0 rfl rfl) rfl) ?_
      refine S.sil 26 rfl rfl (fun _ hF => .extract (lk 1 rfl rfl) rfl) ?_
      refine S.eff 8 rfl rfl (.nf (v2 := .ptr 2 [] 0) (H2 := [.dead, .cells (.st [V.str (default : ByteArray), (V.int .i64) 0, (V.int .i64) 0, E_TCounter (default : TCounter), E_TLock (default : TLock), .nils]), .cells (E_TCounter (default : TCounter))]) (.alloc zv37) rfl rfl) trivial ?_
      refine S.effN rfl rfl (.nf (H2 := [.dead, .cells (.st [V.str (default : ByteArray), (V.int .i64) 0, (V.int .i64) 0, E_TCounter (default : TCounter), E_TLock (default : TLock), .nils]), .cells (E_TCounter r5.1)]) (.storeP sz37 (lk 0 rfl rfl) (lk 2 rfl rfl) rfl (.refl _) rfl .nil (by first | rfl | omega) .nil (ty_TCounter.fl r5.1) (ty_TCounter.fl (default : TCounter)) rfl) rfl rfl) trivial ?_
      refine S.sil 9 rfl rfl (fun _ hF => .assign (lk 1 rfl rfl)) ?_
      refine S.nil ?_
      refine thenQ_n ?_
      refine AWp.wk (Wk.freeze 2 rfl rfl (.same (lk 0 rfl rfl) (.cons (lk 1 rfl rfl) rfl (.ptr .nil (by first | rfl | omega)) (.same (lk 15 rfl rfl) (.same (lk 16 rfl rfl) (.same (lk 17 rfl rfl) (.same (lk 18 rfl rfl) (.same (lk 19 rfl rfl) .nil))))))) (.refl _)) ?_
      refine AWp.seq ?_
      refine W.reg [0, 1, 2, 3, 4, 5, 6, 7] rfl ?_
      refine S.sil 27 rfl rfl (fun _ hF => .loadC sz42 ag42 (lk 4 rfl rfl) (ty_TField.fl a1) rfl) ?_
      refine S.sil 28 rfl rfl (fun _ hF => .loadC sz37 ag37 (lk 2 rfl rfl) (ty_TCounter.fl r5.1) rfl) ?_
      refine S.sil 29 rfl rfl (fun _ hF => .move (lk 2 rfl rfl)) ?_
      obtain ⟨r6, m6, h⟩ := h.bnd
      refine S.sil 30 rfl rfl (fun _ hF => .callQ ent76 cF (.c (lk 2 rfl rfl) (V.sub.refl _) (.c (lk 1 rfl rfl) (V.sub.refl _) (.c (lk 0 rfl rfl) (V.sub.refl _) .nil))) (C_field_changed m6)) ?_
      refine S.sil 31 rfl rfl (fun _ hF => .extract (lk 0 rfl rfl) rfl) ?_
      refine S.sil 32 rfl rfl (fun _ hF => .extract (lk 1 rfl rfl) rfl) ?_
      refine S.effN rfl rfl (.nf (H2 := [.dead, .cells (E_TField r6.1), .dead]) (.storeP sz42 (lk 9 rfl rfl) (lk 1 rfl rfl) rfl (.refl _) rfl .nil (by first | rfl | omega) .nil (ty_TField.fl r6.1) (fl_st (flL_c (show flen _ = 1 from rfl) (flL_c (show flen _ = 1 from rfl) (flL_c (show flen _ = 1 from rfl) (flL_c (ty_TCounter.fl (default : TCounter)) (flL_c (ty_TLock.fl (default : TLock)) (flL_c (show flen _ = 1 from rfl) flL_nil))))))) rfl) rfl rfl) trivial ?_
      refine S.sil 7 rfl rfl (fun _ hF => .assign (lk 0 rfl rfl)) ?_
      refine S.nil ?_
      refine thenQ_n ?_
      refine AWp.ret ?_
      refine thenQ_r ?_
      refine endF_wk (Wk.freeze 1 rfl rfl (.same (lk 0 rfl rfl) (.same (lk 0 rfl rfl) (.cons (lk 10 rfl rfl) rfl (.ptr .nil (by first | rfl | omega)) .nil))) (.refl _)) ?_
      obtain rfl := h.ret
      exact endFN rfl (Wk.selS [] .nil rfl (SelE.leaf (lk 2 rfl rfl) rfl (.refl _) (fun m => (lt_cptr (ty_TField.lt _ _))) (SelE.leaf (lk 0 rfl rfl) rfl (.refl _) (fun m => ((TyOk.int .i64).lt _ _)) .nil)) .nil) (.cons (.cellC sz42 ag42 (lk 0 rfl rfl) (ty_TField.fl _) rfl) (.cons (.tmp (lk 1 rfl rfl) rfl) .nil)) rfl rfl rfl
  · skip
    refine AWp.skip ?_
    refine thenQ_n ?_
    refine AWp.seq ?_
    refine AWp.seq ?_
    refine W.reg [0, 1, 2, 3, 4, 5, 6, 7] rfl ?_
    refine S.sil 33 rfl rfl (fun _ hF => .fieldAddrC lay42 rfl rfl (lk 4 rfl rfl) rfl (flL_c (show flen _ = 1 from rfl) flL_nil)) ?_
    refine S.sil 34 rfl rfl (fun _ hF => .loadC sz3 ag3 (lk 0 rfl rfl) rfl rfl) ?_
    refine S.sil 35 rfl rfl (fun _ hF => .eql (lk 0 rfl rfl) cI) ?_
    refine S.sil 36 rfl rfl (fun _ hF => .move (lk 0 rfl rfl)) ?_
    refine S.gsil 37 3 36 true rfl rfl rfl (lk 0 rfl rfl) (fun hB _ hF => .move (lk 10 rfl rfl)) ?_
    obtain ⟨r7, m7, h⟩ := h.bnd
    refine S.gsil 38 3 36 true rfl rfl rfl (lk 1 rfl rfl) (fun hB _ hF => .callQ ent77 cF (.c (ifT hB (lk 0 rfl rfl)) (V.sub.refl _) .nil) (C_num_Is (gd_get m7 hB))) ?_
    refine S.gsil 39 3 36 true rfl rfl rfl (lk 2 rfl rfl) (fun hB _ hF => .not (ifT hB (lk 0 rfl rfl))) ?_
    refine S.sil 40 rfl rfl (fun _ hF => .pickAnd (lk 3 rfl rfl) (fun h => ifT h (lk 0 rfl rfl)) cB) ?_
    refine S.nil ?_
    refine thenQ_n ?_
    refine AWp.condM (lk 0 rfl rfl) h (fun c3 h => ?_) (fun c3 h => ?_)
    · skip
      refine AWp.seq ?_
      refine W.reg [0, 1, 2] rfl ?_
      obtain ⟨v8, ev8, h⟩ := h.nam
      refine S.sil 41 rfl rfl (fun _ hF => .nv (.vs (v := .st [V.str (default : ByteArray), (V.int .i64) 0, (V.int .i64) 0, E_TCounter (default : TCounter), E_TLock (default : TLock), .nils]) (v2 := E_TField (⟨(default : ByteArray), 0, 0, (default : TCounter), (default : TLock), ([] : List THold)⟩ : TField)) (.buildStW lay42 zv42 rfl .nil) rfl (.st (.cons (.refl _) (.cons (.refl _) (.cons (.refl _) (.cons (.refl _) (.cons (.refl _) (.cons (.nils_no _) .nil)))))))) (congrArg E_TField ev8.symm)) ?_
      refine S.effN rfl rfl (.nf (H2 := [.dead, .cells (E_TField v8)]) (.storeP sz42 (lk 12 rfl rfl) (lk 0 rfl rfl) rfl (.refl _) rfl .nil (by first | rfl | omega) .nil (ty_TField.fl v8) (fl_st (flL_c (show flen _ = 1 from rfl) (flL_c (show flen _ = 1 from rfl) (flL_c (show flen _ = 1 from rfl) (flL_c (ty_TCounter.fl (default : TCounter)) (flL_c (ty_TLock.fl (default : TLock)) (flL_c (show flen _ = 1 from rfl) flL_nil))))))) rfl) rfl rfl) trivial ?_
      refine S.sil 7 rfl rfl (fun _ hF => .assign cI) ?_
      refine S.nil ?_
      refine thenQ_n ?_
      refine AWp.prune (.eq (lk 0 rfl rfl) rfl (.eq (lk 13 rfl rfl) rfl (.eq (lk 14 rfl rfl) rfl (.eq (lk 15 rfl rfl) rfl (.eq (lk 16 rfl rfl) rfl .nil))))) ?_
      refine AWp.ret ?_
      refine thenQ_r ?_
      refine endF_wk (Wk.freeze 1 rfl rfl (.same (lk 0 rfl rfl) (.cons (lk 1 rfl rfl) rfl (.ptr .nil (by first | rfl | omega)) .nil)) (.refl _)) ?_
      obtain rfl := h.ret
      exact endFN rfl (Wk.selS [] .nil rfl (SelE.leaf (lk 1 rfl rfl) rfl (.refl _) (fun m => (lt_cptr (ty_TField.lt _ _))) (SelE.leaf (lk 0 rfl rfl) rfl (.refl _) (fun m => ((TyOk.int .i64).lt _ _)) .nil)) .nil) (.cons (.cellC sz42 ag42 (lk 0 rfl rfl) (ty_TField.fl _) rfl) (.cons (.tmp (lk 1 rfl rfl) rfl) .nil)) rfl rfl rfl
    · skip
      refine AWp.skip ?_
      refine thenQ_n ?_
      refine AWp.prune (.eq (lk 10 rfl rfl) rfl (.eq (lk 11 rfl rfl) rfl (.eq (lk 12 rfl rfl) rfl (.eq (lk 13 rfl rfl) rfl (.eq (lk 14 rfl rfl) rfl .nil))))) ?_
      refine AWp.seq ?_
      refine AWp.seq ?_
      refine W.reg [0, 1, 2, 3, 4, 5] rfl ?_
      refine S.sil 42 rfl rfl (fun _ hF => .loadC sz42 ag42 (lk 2 rfl rfl) (ty_TField.fl a1) rfl) ?_
      refine S.sil 43 rfl rfl (fun _ hF => .move (lk 4 rfl rfl)) ?_
      refine S.sil 44 rfl rfl (fun _ hF => .move (lk 6 rfl rfl)) ?_
      refine S.sil 45 rfl rfl (fun _ hF => .neg (lk 0 rfl rfl)) ?_
      obtain ⟨r9, m9, h⟩ := h.bnd
      refine S.sil 46 rfl rfl (fun _ hF => .callQ ent78 cF (.c (lk 3 rfl rfl) (V.sub.refl _) (.c (lk 2 rfl rfl) (V.sub.refl _) (.c (lk 0 rfl rfl) (V.sub.refl _) .nil))) (C_field_lacks m9)) ?_
      refine S.sil 10 rfl rfl (fun _ hF => .assign (lk 0 rfl rfl)) ?_
      refine S.nil ?_
      refine thenQ_n ?_
      refine AWp.seq ?_
      refine W.reg [0, 1] rfl ?_
      refine S.sil 47 rfl rfl (fun _ hF => .move (lk 0 rfl rfl)) ?_
      refine S.sil 48 rfl rfl (fun _ hF => .neq (lk 0 rfl rfl) cI) ?_
      refine S.nil ?_
      refine thenQ_n ?_
      refine AWp.condM (lk 0 rfl rfl) h (fun c4 h => ?_) (fun c4 h => ?_)
      · skip
        refine AWp.seq ?_
        refine W.reg [0, 1, 2, 3] rfl ?_
        obtain ⟨v10, ev10, h⟩ := h.nam
        refine S.sil 49 rfl rfl (fun _ hF => .nv (.vs (v := .st [V.str (default : ByteArray), (V.int .i64) 0, (V.int .i64) 0, E_TCounter (default : TCounter), E_TLock (default : TLock), .nils]) (v2 := E_TField (⟨(default : ByteArray), 0, 0, (default : TCounter), (default : TLock), ([] : List THold)⟩ : TField)) (.buildStW lay42 zv42 rfl .nil) rfl (.st (.cons (.refl _) (.cons (.refl _) (.cons (.refl _) (.cons (.refl _) (.cons (.refl _) (.cons (.nils_no _) .nil)))))))) (congrArg E_TField ev10.symm)) ?_
        refine S.sil 50 rfl rfl (fun _ hF => .move (lk 3 rfl rfl)) ?_
        refine S.effN rfl rfl (.nf (H2 := [.dead, .cells (E_TField v10)]) (.storeP sz42 (lk 11 rfl rfl) (lk 1 rfl rfl) rfl (.refl _) rfl .nil (by first | rfl | omega) .nil (ty_TField.fl v10) (fl_st (flL_c (show flen _ = 1 from rfl) (flL_c (show flen _ = 1 from rfl) (flL_c (show flen _ = 1 from rfl) (flL_c (ty_TCounter.fl (default : TCounter)) (flL_c (ty_TLock.fl (default : TLock)) (flL_c (show flen _ = 1 from rfl) flL_nil))))))) rfl) rfl rfl) trivial ?_
        refine S.sil 7 rfl rfl (fun _ hF => .assign (lk 0 rfl rfl)) ?_
        refine S.nil ?_
        refine thenQ_n ?_
        refine AWp.prune (.eq (lk 0 rfl rfl) rfl (.eq (lk 12 rfl rfl) rfl (.eq (lk 13 rfl rfl) rfl (.eq (lk 14 rfl rfl) rfl (.eq (lk 15 rfl rfl) rfl .nil))))) ?_
        refine AWp.ret ?_
        refine thenQ_r ?_
        refine endF_wk (Wk.freeze 1 rfl rfl (.same (lk 0 rfl rfl) (.cons (lk 1 rfl rfl) rfl (.ptr .nil (by first | rfl | omega)) .nil)) (.refl _)) ?_
        obtain rfl := h.ret
        exact endFN rfl (Wk.selS [] .nil rfl (SelE.leaf (lk 1 rfl rfl) rfl (.refl _) (fun m => (lt_cptr (ty_TField.lt _ _))) (SelE.leaf (lk 0 rfl rfl) rfl (.refl _) (fun m => ((TyOk.int .i64).lt _ _)) .nil)) .nil) (.cons (.cellC sz42 ag42 (lk 0 rfl rfl) (ty_TField.fl _) rfl) (.cons (.tmp (lk 1 rfl rfl) rfl) .nil)) rfl rfl rfl
      · skip
        refine AWp.skip ?_
        refine thenQ_n ?_
        refine AWp.seq ?_
        refine W.reg [0, 1, 2, 3, 4, 5, 6, 7, 8, 9, 10, 11] rfl ?_
        refine S.sil 52 rfl rfl (fun _ hF => .fieldAddrC lay42 rfl rfl (lk 10 rfl rfl) rfl (flL_c (show flen _ = 1 from rfl) (flL_c (show flen _ = 1 from rfl) (flL_c (show flen _ = 1 from rfl) flL_nil)))) ?_
        refine S.sil 53 rfl rfl (fun _ hF => .loadC sz37 ag37 (lk 0 rfl rfl) (ty_TCounter.fl a1.Counter) rfl) ?_
        refine S.sil 54 rfl rfl (fun _ hF => .move (lk 13 rfl rfl)) ?_
        refine S.sil 55 rfl rfl (fun _ hF => .move (lk 15 rfl rfl)) ?_
        refine S.sil 56 rfl rfl (fun _ hF => .neg (lk 0 rfl rfl)) ?_
        obtain ⟨r11, m11, h⟩ := h.bnd
        refine S.sil 57 rfl rfl (fun _ hF => .callQ ent79 cF (.c (lk 3 rfl rfl) (V.sub.refl _) (.c (lk 2 rfl rfl) (V.sub.refl _) (.c (lk 0 rfl rfl) (V.sub.refl _) .nil))) (C_counter_Dec m11)) ?_
        refine S.sil 51 rfl rfl (fun _ hF => .move (lk 0 rfl rfl)) ?_
        refine S.sil 58 rfl rfl (fun _ hF => .extract (lk 0 rfl rfl) rfl) ?_
        refine S.sil 59 rfl rfl (fun _ hF => .extract (lk 1 rfl rfl) rfl) ?_
        refine S.eff 11 rfl rfl (.nf (v2 := .ptr 2 [] 0) (H2 := [.dead, .cells (.st [V.str (default : ByteArray), (V.int .i64) 0, (V.int .i64) 0, E_TCounter (default : TCounter), E_TLock (default : TLock), .nils]), .cells (E_TCounter (default : TCounter))]) (.alloc zv37) rfl rfl) trivial ?_
        refine S.effN rfl rfl (.nf (H2 := [.dead, .cells (.st [V.str (default : ByteArray), (V.int .i64) 0, (V.int .i64) 0, E_TCounter (default : TCounter), E_TLock (default : TLock), .nils]), .cells (E_TCounter r11.1)]) (.storeP sz37 (lk 0 rfl rfl) (lk 2 rfl rfl) rfl (.refl _) rfl .nil (by first | rfl | omega) .nil (ty_TCounter.fl r11.1) (ty_TCounter.fl (default : TCounter)) rfl) rfl rfl) trivial ?_
        refine S.sil 12 rfl rfl (fun _ hF => .assign (lk 1 rfl rfl)) ?_
        refine S.nil ?_
        refine thenQ_n ?_
        refine AWp.wk (Wk.freeze 2 rfl rfl (.same (lk 0 rfl rfl) (.cons (lk 1 rfl rfl) rfl (.ptr .nil (by first | rfl | omega)) (.same (lk 19 rfl rfl) (.same (lk 20 rfl rfl) (.same (lk 21 rfl rfl) .nil))))) (.refl _)) ?_
        refine AWp.seq ?_
        refine W.reg [0, 1, 2, 3, 4, 5, 6, 7] rfl ?_
        refine S.sil 60 rfl rfl (fun _ hF => .loadC sz42 ag42 (lk 4 rfl rfl) (ty_TField.fl a1) rfl) ?_
        refine S.sil 61 rfl rfl (fun _ hF => .loadC sz37 ag37 (lk 2 rfl rfl) (ty_TCounter.fl r11.1) rfl) ?_
        refine S.sil 62 rfl rfl (fun _ hF => .move (lk 2 rfl rfl)) ?_
        obtain ⟨r12, m12, h⟩ := h.bnd
        refine S.sil 63 rfl rfl (fun _ hF => .callQ ent76 cF (.c (lk 2 rfl rfl) (V.sub.refl _) (.c (lk 1 rfl rfl) (V.sub.refl _) (.c (lk 0 rfl rfl) (V.sub.refl _) .nil))) (C_field_changed m12)) ?_
        refine S.sil 64 rfl rfl (fun _ hF => .extract (lk 0 rfl rfl) rfl) ?_
        refine S.sil 65 rfl rfl (fun _ hF => .extract (lk 1 rfl rfl) rfl) ?_
        refine S.effN rfl rfl (.nf (H2 := [.dead, .cells (E_TField r12.1), .dead]) (.storeP sz42 (lk 9 rfl rfl) (lk 1 rfl rfl) rfl (.refl _) rfl .nil (by first | rfl | omega) .nil (ty_TField.fl r12.1) (fl_st (flL_c (show flen _ = 1 from rfl) (flL_c (show flen _ = 1 from rfl) (flL_c (show flen _ = 1 from rfl) (flL_c (ty_TCounter.fl (default : TCounter)) (flL_c (ty_TLock.fl (default : TLock)) (flL_c (show flen _ = 1 from rfl) flL_nil))))))) rfl) rfl rfl) trivial ?_
        refine S.sil 7 rfl rfl (fun _ hF => .assign (lk 0 rfl rfl)) ?_
        refine S.nil ?_
        refine thenQ_n ?_
        refine AWp.prune (.eq (lk 0 rfl rfl) rfl (.eq (lk 10 rfl rfl) rfl .nil)) ?_
        refine AWp.ret ?_
        refine endF_wk (Wk.freeze 1 rfl rfl (.same (lk 0 rfl rfl) (.cons (lk 1 rfl rfl) rfl (.ptr .nil (by first | rfl | omega)) .nil)) (.refl _)) ?_
        obtain rfl := h.ret
        exact endFN rfl (Wk.selS [] .nil rfl (SelE.leaf (lk 1 rfl rfl) rfl (.refl _) (fun m => (lt_cptr (ty_TField.lt _ _))) (SelE.leaf (lk 0 rfl rfl) rfl (.refl _) (fun m => ((TyOk.int .i64).lt _ _)) .nil)) .nil) (.cons (.cellC sz42 ag42 (lk 0 rfl rfl) (ty_TField.fl _) rfl) (.cons (.tmp (lk 1 rfl rfl) rfl) .nil)) rfl rfl rfl
theorem C_hold_place_1 {a1 : THold} {a2 : Int} {a3 : Int} {r : Bool} (h : hold_place_1 a1 a2 a3 = some r) : PureC Pg 215 [E_THold a1, .cptr ((V.int .i64) a2), .cptr ((V.int .i64) a3)] (V.bool r) := by
  refine PureC.ofF (CallSpec.of_bodyF 15 0 fn215 rfl rfl rfl (Nat.le_of_ble_eq_true rfl) ?_) (ltL_c (ty_THold.lt _ _) (ltL_c (lt_cptr ((TyOk.int .i64).lt _ _)) (ltL_c (lt_cptr ((TyOk.int .i64).lt _ _)) ltL_nil))) (TyOk.bool.lt _ _)
  replace h := Ok.of h
  unfold hold_place_1 at h
  refine AWp.seq ?_
  refine W.reg [0, 1] rfl ?_
  refine S.eff 3 rfl rfl (.nf (v2 := .ptr 0 [] 0) (H2 := [.cells (E_THold a1)]) (.box (lk 0 rfl rfl) rfl) rfl rfl) trivial ?_
  refine S.sil 4 rfl rfl (fun _ hF => .assign cB) ?_
  refine S.nil ?_
  refine thenQ_n ?_
  refine AWp.wk (Wk.freeze 0 rfl rfl (.same (lk 0 rfl rfl) (.cons (lk 1 rfl rfl) rfl (.ptr .nil (by first | rfl | omega)) (.same (lk 3 rfl rfl) (.same (lk 4 rfl rfl) .nil)))) (.refl _)) ?_
  refine AWp.seq ?_
  refine W.reg [0, 1, 2, 3, 4, 5, 6, 7, 8, 9, 10] rfl ?_
  refine S.sil 5 rfl rfl (fun _ hF => .fieldAddrC lay101 rfl rfl (lk 1 rfl rfl) rfl flL_nil) ?_
  refine S.sil 6 rfl rfl (fun _ hF => .loadC sz3 ag3 (lk 0 rfl rfl) rfl rfl) ?_
  refine S.sil 7 rfl rfl (fun _ hF => .loadC sz3 ag3 (lk 4 rfl rfl) rfl rfl) ?_
  refine S.sil 8 rfl rfl (fun _ hF => .eql (lk 1 rfl rfl) (lk 0 rfl rfl)) ?_
  refine S.sil 9 rfl rfl (fun _ hF => .move (lk 0 rfl rfl)) ?_
  refine S.gsil 10 4 9 true rfl rfl rfl (lk 0 rfl rfl) (fun hB _ hF => .fieldAddrC lay101 rfl rfl (lk 6 rfl rfl) rfl (flL_c (show flen _ = 1 from rfl) flL_nil)) ?_
  refine S.gsil 11 4 9 true rfl rfl rfl (lk 1 rfl rfl) (fun hB _ hF => .loadC sz3 ag3 (ifT hB (lk 0 rfl rfl)) rfl rfl) ?_
  refine S.gsil 12 4 9 true rfl rfl rfl (lk 2 rfl rfl) (fun hB _ hF => .loadC sz3 ag3 (lk 10 rfl rfl) rfl rfl) ?_
  refine S.gsil 13 4 9 true rfl rfl rfl (lk 3 rfl rfl) (fun hB _ hF => .eql (ifT hB (lk 1 rfl rfl)) (ifT hB (lk 0 rfl rfl))) ?_
  refine S.sil 14 rfl rfl (fun _ hF => .pickAnd (lk 4 rfl rfl) (fun h => ifT h (lk 0 rfl rfl)) cB) ?_
  obtain ⟨v4, ev4, h⟩ := h.nam
  refine S.sil 4 rfl rfl (fun _ hF => .nv (.assign (lk 0 rfl rfl)) (congrArg V.bool ev4.symm)) ?_
  refine S.nil ?_
  refine thenQ_n ?_
  refine AWp.prune (.eq (lk 0 rfl rfl) rfl .nil) ?_
  refine AWp.ret ?_
  obtain rfl := h.ret
  exact endF1 rfl (Wk.selS [] .nil rfl (SelE.leaf (lk 0 rfl rfl) rfl (.refl _) (fun m => (TyOk.bool.lt _ _)) .nil) .nil) (.tmp (lk 0 rfl rfl) rfl) rfl rfl
theorem C_slices_IndexFunc_Hold_place_1 {a1 : List THold} {a2 : Int} {a3 : Int} {r : Int} (h : slices_IndexFunc_Hold_place_1 a1 a2 a3 = some r) : PureC Pg 137 [.sl 5 .no (List.map E_THold a1), .fn 215 [] [.cptr ((V.int .i64) a2), .cptr ((V.int .i64) a3)]] ((V.int .i64) r) := by
  refine PureC.ofF (CallSpec.of_bodyF 19 0 fn137 rfl rfl rfl (Nat.le_of_ble_eq_true rfl) ?_) (ltL_c (lt_sl rfl (ty_THold.ltm _ _)) (ltL_c (lt_fn ltL_nil (ltL_c (lt_cptr ((TyOk.int .i64).lt _ _)) (ltL_c (lt_cptr ((TyOk.int .i64).lt _ _)) ltL_nil))) ltL_nil)) ((TyOk.int .i64).lt _ _)
  replace h := Ok.of h
  unfold slices_IndexFunc_Hold_place_1 at h
  refine AWp.seq ?_
  refine W.reg [0] rfl ?_
  refine S.sil 4 rfl rfl (fun _ hF => .assign cI) ?_
  refine S.nil ?_
  refine thenQ_n ?_
  refine AWp.seq ?_
  refine AWp.seq ?_
  refine W.reg [0, 1, 2] rfl ?_
  refine S.sil 6 rfl rfl (fun _ hF => .move (lk 1 rfl rfl)) ?_
  refine S.sil 7 rfl rfl (fun _ hF => .lenT sli40 (lk 0 rfl rfl) (vsub rfl (.refl _))) ?_
  refine S.sil 8 rfl rfl (fun _ hF => .move cI) ?_
  refine S.nil ?_
  refine thenQ_n ?_
  refine AWp.cutL (fun x6 => ⟨[(4, (V.int .i64) 0)], []⟩) nc_then h (fun q4 hq4 h => ?_) (fun x6 h => ?_)
  · refine AWp.block ?_
    refine AWp.loopT (fun s5 => ⟨[(8, (V.int .i64) s5), (7, (V.int .i64) (a1.length : Int)), (4, (V.int .i64) 0), (0, .sl 5 .no (List.map E_THold a1)), (1, .fn 215 [] [.cptr ((V.int .i64) a2), .cptr ((V.int .i64) a3)])], []⟩) hq4 (Wk.selS [] (by decide) rfl (SelE.leaf (lk 0 rfl rfl) rfl (.refl _) (fun m => ((TyOk.int .i64).lt _ _)) (SelE.leaf (lk 1 rfl rfl) rfl (.refl _) (fun m => ((TyOk.int .i64).lt _ _)) (SelE.leaf (lk 3 rfl rfl) rfl (.refl _) (fun m => ((TyOk.int .i64).lt _ _)) (SelE.leaf (lk 4 rfl rfl) rfl (.refl _) (fun m => (lt_sl rfl (ty_THold.ltm _ _))) (SelE.leaf (lk 5 rfl rfl) rfl (.refl _) (fun m => (lt_fn ltL_nil (ltL_c (lt_cptr ((TyOk.int .i64).lt _ _)) (ltL_c (lt_cptr ((TyOk.int .i64).lt _ _)) ltL_nil)))) .nil))))) .nil) (fun _ s5 h4 => ?_)
    rw [slices_IndexFunc_Hold_place_1_L1] at h4
    refine AWp.seq ?_
    refine W.reg [0] rfl ?_
    refine S.sil 9 rfl rfl (fun _ hF => .lss (lk 0 rfl rfl) (lk 1 rfl rfl)) ?_
    refine S.nil ?_
    refine thenQ_n ?_
    refine AWp.seq ?_
    refine AWp.condM (lk 0 rfl rfl) h4 (fun c1 h4 => ?_) (fun c1 h4 => ?_)
    · skip
      refine AWp.skip ?_
      refine thenQ_n ?_
      refine AWp.seq ?_
      refine AWp.block ?_
      refine AWp.seq ?_
      refine W.reg [0, 1] rfl ?_
      refine S.sil 10 rfl rfl (fun _ hF => .move (lk 1 rfl rfl)) ?_
      refine S.sil 5 rfl rfl (fun _ hF => .assign (lk 0 rfl rfl)) ?_
      refine S.nil ?_
      refine thenQ_n ?_
      refine AWp.seq ?_
      refine W.reg [0, 1, 2, 3, 4, 5] rfl ?_
      refine S.sil 11 rfl rfl (fun _ hF => .move (lk 7 rfl rfl)) ?_
      refine S.sil 12 rfl rfl (fun _ hF => .move (lk 7 rfl rfl)) ?_
      refine S.sil 13 rfl rfl (fun _ hF => .move (lk 2 rfl rfl)) ?_
      obtain ⟨j7, m7, h4⟩ := h4.bnd
      refine S.sil 14 rfl rfl (fun _ hF => .ixS sli40 (lk 1 rfl rfl) (lk 0 rfl rfl) m7) ?_
      obtain ⟨v8, ev8, h4⟩ := h4.nam
      refine S.sil 15 rfl rfl (fun _ hF => .nv (.loadC sz101 ag101 (lk 0 rfl rfl) (ty_THold.fl (a1.getD j7 default)) rfl) (congrArg E_THold ev8.symm)) ?_
      obtain ⟨r9, m9, h4⟩ := h4.bnd
      refine S.sil 16 rfl rfl (fun _ hF => .callQ ent215 (lk 4 rfl rfl) (.c (lk 0 rfl rfl) (V.sub.refl _) (.cons (.refl _) (.cons (.refl _) .nil))) (C_hold_place_1 m9)) ?_
      refine S.nil ?_
      refine thenQ_n ?_
      refine AWp.condM (lk 0 rfl rfl) h4 (fun c2 h4 => ?_) (fun c2 h4 => ?_)
      · skip
        refine AWp.seq ?_
        refine W.reg [0, 1] rfl ?_
        refine S.sil 17 rfl rfl (fun _ hF => .move (lk 6 rfl rfl)) ?_
        refine S.sil 4 rfl rfl (fun _ hF => .assign (lk 0 rfl rfl)) ?_
        refine S.nil ?_
        refine thenQ_n ?_
        refine AWp.ret ?_
        refine blockQ_r ?_
        refine thenQ_r ?_
        refine thenQ_r ?_
        refine blockQ_r ?_
        refine thenQ_r ?_
        refine thenQ_r ?_
        have h := Ok.inrq h h4.ret
        obtain rfl := h.ret
        exact endF1 rfl (Wk.selS [] .nil rfl (SelE.leaf (lk 0 rfl rfl) rfl (.refl _) (fun m => ((TyOk.int .i64).lt _ _)) .nil) .nil) (.tmp (lk 0 rfl rfl) rfl) rfl rfl
      · skip
        refine AWp.skip ?_
        refine blockQ_n ?_
        refine thenQ_n ?_
        refine W.reg [0, 1] rfl ?_
        refine S.sil 18 rfl rfl (fun _ hF => .add (lk 9 rfl rfl) cI) ?_
        refine S.sil 8 rfl rfl (fun _ hF => .move (lk 0 rfl rfl)) ?_
        refine S.nil ?_
        refine thenQ_n ?_
        exact ⟨_, h4.ret, (Wk.selS [] (by decide) rfl (SelE.leaf (lk 0 rfl rfl) rfl (.refl _) (fun m => ((TyOk.int .i64).lt _ _)) (SelE.leaf (lk 12 rfl rfl) rfl (.refl _) (fun m => ((TyOk.int .i64).lt _ _)) (SelE.leaf (lk 13 rfl rfl) rfl (.refl _) (fun m => ((TyOk.int .i64).lt _ _)) (SelE.leaf (lk 14 rfl rfl) rfl (.refl _) (fun m => (lt_sl rfl (ty_THold.ltm _ _))) (SelE.leaf (lk 15 rfl rfl) rfl (.refl _) (fun m => (lt_fn ltL_nil (ltL_c (lt_cptr ((TyOk.int .i64).lt _ _)) (ltL_c (lt_cptr ((TyOk.int .i64).lt _ _)) ltL_nil)))) .nil))))) .nil)⟩
    · skip
      refine AWp.exit ?_
      refine thenQ_x ?_
      refine thenQ_x ?_
      refine blockQ_x ?_
      refine thenQ_n ?_
      exact ⟨_, h4.ret, (Wk.selS [] (by decide) rfl (SelE.leaf (lk 3 rfl rfl) rfl (.refl _) (fun m => ((TyOk.int .i64).lt _ _)) .nil) .nil)⟩
  · skip
    refine thenQ_n ?_
    refine AWp.seq ?_
    refine W.reg [0] rfl ?_
    refine S.sil 4 rfl rfl (fun _ hF => .assign cI) ?_
    refine S.nil ?_
    refine thenQ_n ?_
    refine AWp.ret ?_
    obtain rfl := h.ret
    exact endF1 rfl (Wk.selS [] .nil rfl (SelE.leaf (lk 0 rfl rfl) rfl (.refl _) (fun m => ((TyOk.int .i64).lt _ _)) .nil) .nil) (.tmp (lk 0 rfl rfl) rfl) rfl rfl
theorem C_hold_place {a1 : List THold} {a2 : Int} {a3 : Int} {r : Int} (h : hold_place a1 a2 a3 = some r) : PureC Pg 175 [.sl 5 .no (List.map E_THold a1), (V.int .i64) a2, (V.int .i64) a3] ((V.int .i64) r) := by
  refine PureC.ofF (CallSpec.of_bodyF 10 0 fn175 rfl rfl rfl (Nat.le_of_ble_eq_true rfl) ?_) (ltL_c (lt_sl rfl (ty_THold.ltm _ _)) (ltL_c ((TyOk.int .i64).lt _ _) (ltL_c ((TyOk.int .i64).lt _ _) ltL_nil))) ((TyOk.int .i64).lt _ _)
  replace h := Ok.of h
  unfold hold_place at h
  refine AWp.seq ?_
  refine W.reg [0, 1, 2] rfl ?_
  refine S.eff 4 rfl rfl (.nf (v2 := .ptr 0 [] 0) (H2 := [.cells ((V.int .i64) a2)]) (.box (lk 1 rfl rfl) rfl) rfl rfl) trivial ?_
  refine S.eff 5 rfl rfl (.nf (v2 := .ptr 1 [] 0) (H2 := [.cells ((V.int .i64) a2), .cells ((V.int .i64) a3)]) (.box (lk 3 rfl rfl) rfl) rfl rfl) trivial ?_
  refine S.sil 6 rfl rfl (fun _ hF => .assign cI) ?_
  refine S.nil ?_
  refine thenQ_n ?_
  refine AWp.wk (Wk.freeze 0 rfl rfl (.same (lk 0 rfl rfl) (.same (lk 1 rfl rfl) (.cons (lk 2 rfl rfl) rfl (.ptr .nil (by first | rfl | omega)) (.same (lk 3 rfl rfl) .nil)))) (.refl _)) ?_
  refine AWp.wk (Wk.freeze 1 rfl rfl (.same (lk 0 rfl rfl) (.cons (lk 1 rfl rfl) rfl (.ptr .nil (by first | rfl | omega)) (.same (lk 2 rfl rfl) (.same (lk 3 rfl rfl) .nil)))) (.refl _)) ?_
  refine AWp.seq ?_
  refine W.reg [0, 1, 2, 3] rfl ?_
  refine S.sil 7 rfl rfl (fun _ hF => .move (lk 3 rfl rfl)) ?_
  refine S.sil 8 rfl rfl (fun _ hF => .makeFunc rfl (mapE2 (lk 3 rfl rfl) (lk 2 rfl rfl)) rfl rfl) ?_
  obtain ⟨r4, m4, h⟩ := h.bnd
  refine S.sil 9 rfl rfl (fun _ hF => .callQ ent137 cF (.c (lk 1 rfl rfl) (V.sub.refl _) (.c (lk 0 rfl rfl) (V.sub.refl _) .nil)) (C_slices_IndexFunc_Hold_place_1 m4)) ?_
  refine S.sil 6 rfl rfl (fun _ hF => .assign (lk 0 rfl rfl)) ?_
  refine S.nil ?_
  refine thenQ_n ?_
  refine AWp.ret ?_
  obtain rfl := h.ret
  exact endF1 rfl (Wk.selS [] .nil rfl (SelE.leaf (lk 0 rfl rfl) rfl (.refl _) (fun m => ((TyOk.int .i64).lt _ _)) .nil) .nil) (.tmp (lk 0 rfl rfl) rfl) rfl rfl
theorem C_hold_End {a1 : List THold} {a2 : Int} {a3 : Int} {a4 : Int} {r : (List THold) × Int × Int} (h : hold_End a1 a2 a3 a4 = some r) : PureC Pg 121 [.sl 5 .no (List.map E_THold a1), (V.int .i64) a2, (V.int .i64) a3, (V.int .i64) a4] (.tup [E_S_THold r.1, (V.int .i64) r.2.1, (V.int .i64) r.2.2]) := by
  refine PureC.ofF (CallSpec.of_bodyF 52 0 fn121 rfl rfl rfl (Nat.le_of_ble_eq_true rfl) ?_) (ltL_c (lt_sl rfl (ty_THold.ltm _ _)) (ltL_c ((TyOk.int .i64).lt _ _) (ltL_c ((TyOk.int .i64).lt _ _) (ltL_c ((TyOk.int .i64).lt _ _) ltL_nil)))) (lt_tup (ltL_c (ty_S_THold.lt _ _) (ltL_c ((TyOk.int .i64).lt _ _) (ltL_c ((TyOk.int .i64).lt _ _) ltL_nil))))
  replace h := Ok.of h
  unfold hold_End at h
  refine AWp.seq ?_
  refine W.reg [0, 1, 2] rfl ?_
  refine S.sil 8 rfl rfl (fun _ hF => .assign cNs) ?_
  refine S.sil 9 rfl rfl (fun _ hF => .assign cI) ?_
  refine S.sil 10 rfl rfl (fun _ hF => .assign cI) ?_
  refine S.nil ?_
  refine thenQ_n ?_
  refine AWp.seq ?_
  refine W.reg [0, 1, 2, 3, 4] rfl ?_
  refine S.sil 13 rfl rfl (fun _ hF => .move (lk 3 rfl rfl)) ?_
  refine S.sil 14 rfl rfl (fun _ hF => .move (lk 5 rfl rfl)) ?_
  refine S.sil 15 rfl rfl (fun _ hF => .move (lk 7 rfl rfl)) ?_
  obtain ⟨r5, m5, h⟩ := h.bnd
  refine S.sil 16 rfl rfl (fun _ hF => .callQ ent175 cF (.c (lk 2 rfl rfl) (V.sub.refl _) (.c (lk 1 rfl rfl) (V.sub.refl _) (.c (lk 0 rfl rfl) (V.sub.refl _) .nil))) (C_hold_place m5)) ?_
  refine S.sil 11 rfl rfl (fun _ hF => .assign (lk 0 rfl rfl)) ?_
  refine S.nil ?_
  refine thenQ_n ?_
  refine AWp.seq ?_
  refine AWp.block ?_
  refine AWp.seq ?_
  refine W.reg [0, 1, 2, 3, 4, 5, 6, 7, 8, 9, 10, 11] rfl ?_
  refine S.sil 18 rfl rfl (fun _ hF => .move (lk 8 rfl rfl)) ?_
  obtain ⟨r6, m6, h⟩ := h.bnd
  refine S.sil 19 rfl rfl (fun _ hF => .callQ ent132 cF (.c (lk 0 rfl rfl) (V.sub.refl _) .nil) (C_hold_Rights m6)) ?_
  refine S.sil 20 rfl rfl (fun _ hF => .not (lk 0 rfl rfl)) ?_
  refine S.sil 21 rfl rfl (fun _ hF => .move (lk 0 rfl rfl)) ?_
  refine S.gsil 22 3 21 false rfl rfl rfl (lk 0 rfl rfl) (fun hB _ hF => .move (lk 15 rfl rfl)) ?_
  refine S.gsil 23 3 21 false rfl rfl rfl (lk 1 rfl rfl) (fun hB _ hF => .neq (ifT hB (lk 0 rfl rfl)) cI) ?_
  refine S.gsil 24 3 21 false rfl rfl rfl (lk 2 rfl rfl) (fun hB _ hF => .move (ifT hB (lk 0 rfl rfl))) ?_
  refine S.gsil2 25 6 24 true rfl rfl rfl (lk 0 rfl rfl) (fun hB _ hF => .move (lk 18 rfl rfl)) ?_
  refine S.gsil2 26 6 24 true rfl rfl rfl (lk 1 rfl rfl) (fun hB _ hF => .neq (ifT hB (lk 0 rfl rfl)) cI) ?_
  refine S.gsil 27 3 21 false rfl rfl rfl (lk 5 rfl rfl) (fun hB _ hF => .pickAnd (ifT hB (lk 2 rfl rfl)) (fun h => ifT ⟨hB, h⟩ (lk 0 rfl rfl)) cB) ?_
  refine S.sil 28 rfl rfl (fun _ hF => .pickOr (lk 6 rfl rfl) cB (fun h => ifT h (lk 0 rfl rfl))) ?_
  obtain ⟨v7, ev7, h⟩ := h.nam
  refine S.sil 17 rfl rfl (fun _ hF => .nv (.assign (lk 0 rfl rfl)) (congrArg V.bool ev7.symm)) ?_
  refine S.nil ?_
  refine thenQ_n ?_
  refine AWp.prune (.eq (lk 0 rfl rfl) rfl (.eq (lk 12 rfl rfl) rfl (.eq (lk 17 rfl rfl) rfl (.eq (lk 18 rfl rfl) rfl (.eq (lk 19 rfl rfl) rfl (.eq (lk 20 rfl rfl) rfl (.eq (lk 23 rfl rfl) rfl .nil))))))) ?_
  refine AWp.condM (lk 0 rfl rfl) h (fun c1 h => ?_) (fun c1 h => ?_)
  · skip
    refine AWp.seq ?_
    refine W.reg [0, 1, 2] rfl ?_
    refine S.sil 8 rfl rfl (fun _ hF => .assign cNs) ?_
    refine S.sil 9 rfl rfl (fun _ hF => .assign cI) ?_
    refine S.sil 10 rfl rfl (fun _ hF => .assign cI) ?_
    refine S.nil ?_
    refine thenQ_n ?_
    refine AWp.ret ?_
    refine blockQ_r ?_
    refine thenQ_r ?_
    obtain rfl := h.ret
    exact endFN rfl (Wk.selS [] .nil rfl (SelE.leaf (lk 2 rfl rfl) rfl (.nils_no _) (fun m => (ty_S_THold.lt ([] : List THold) _)) (SelE.leaf (lk 1 rfl rfl) rfl (.refl _) (fun m => ((TyOk.int .i64).lt _ _)) (SelE.leaf (lk 0 rfl rfl) rfl (.refl _) (fun m => ((TyOk.int .i64).lt _ _)) .nil))) .nil) (.cons (.tmp (lk 0 rfl rfl) rfl) (.cons (.tmp (lk 1 rfl rfl) rfl) (.cons (.tmp (lk 2 rfl rfl) rfl) .nil))) rfl rfl rfl
  · skip
    refine AWp.seq ?_
    refine W.reg [0, 1, 2] rfl ?_
    refine S.sil 30 rfl rfl (fun _ hF => .move (lk 1 rfl rfl)) ?_
    refine S.sil 31 rfl rfl (fun _ hF => .lss (lk 0 rfl rfl) cI) ?_
    refine S.sil 29 rfl rfl (fun _ hF => .assign (lk 0 rfl rfl)) ?_
    refine S.nil ?_
    refine thenQ_n ?_
    refine AWp.condM (lk 0 rfl rfl) h (fun c2 h => ?_) (fun c2 h => ?_)
    · skip
      refine AWp.seq ?_
      refine W.reg [0, 1, 2] rfl ?_
      refine S.sil 8 rfl rfl (fun _ hF => .assign cNs) ?_
      refine S.sil 9 rfl rfl (fun _ hF => .assign cI) ?_
      refine S.sil 10 rfl rfl (fun _ hF => .assign cI) ?_
      refine S.nil ?_
      refine thenQ_n ?_
      refine AWp.ret ?_
      refine blockQ_r ?_
      refine thenQ_r ?_
      obtain rfl := h.ret
      exact endFN rfl (Wk.selS [] .nil rfl (SelE.leaf (lk 2 rfl rfl) rfl (.nils_no _) (fun m => (ty_S_THold.lt ([] : List THold) _)) (SelE.leaf (lk 1 rfl rfl) rfl (.refl _) (fun m => ((TyOk.int .i64).lt _ _)) (SelE.leaf (lk 0 rfl rfl) rfl (.refl _) (fun m => ((TyOk.int .i64).lt _ _)) .nil))) .nil) (.cons (.tmp (lk 0 rfl rfl) rfl) (.cons (.tmp (lk 1 rfl rfl) rfl) (.cons (.tmp (lk 2 rfl rfl) rfl) .nil))) rfl rfl rfl
    · skip
      refine AWp.seq ?_
      refine W.reg [0, 1, 2, 3, 4, 5, 6] rfl ?_
      refine S.sil 33 rfl rfl (fun _ hF => .move (lk 8 rfl rfl)) ?_
      refine S.sil 34 rfl rfl (fun _ hF => .move (lk 5 rfl rfl)) ?_
      obtain ⟨j8, m8, h⟩ := h.bnd
      refine S.sil 35 rfl rfl (fun _ hF => .ixS sli40 (lk 1 rfl rfl) (lk 0 rfl rfl) m8) ?_
      refine S.sil 36 rfl rfl (fun _ hF => .fieldAddrC lay101 rfl rfl (lk 0 rfl rfl) rfl (flL_c (show flen _ = 1 from rfl) (flL_c (show flen _ = 1 from rfl) (flL_c (show flen _ = 1 from rfl) (flL_c (show flen _ = 1 from rfl) flL_nil))))) ?_
      refine S.sil 37 rfl rfl (fun _ hF => .loadC sz3 ag3 (lk 0 rfl rfl) rfl rfl) ?_
      refine S.sil 38 rfl rfl (fun _ hF => .neq (lk 0 rfl rfl) cI) ?_
      obtain ⟨v9, ev9, h⟩ := h.nam
      refine S.sil 32 rfl rfl (fun _ hF => .nv (.assign (lk 0 rfl rfl)) (congrArg V.bool ev9.symm)) ?_
      refine S.nil ?_
      refine thenQ_n ?_
      refine AWp.prune (.eq (lk 0 rfl rfl) rfl (.eq (lk 11 rfl rfl) rfl (.eq (lk 12 rfl rfl) rfl (.eq (lk 13 rfl rfl) rfl (.eq (lk 14 rfl rfl) rfl (.eq (lk 15 rfl rfl) rfl (.eq (lk 16 rfl rfl) rfl .nil))))))) ?_
      refine AWp.condM (lk 0 rfl rfl) h (fun c3 h => ?_) (fun c3 h => ?_)
      · skip
        refine AWp.seq ?_
        refine W.reg [0, 1, 2] rfl ?_
        refine S.sil 8 rfl rfl (fun _ hF => .assign cNs) ?_
        refine S.sil 9 rfl rfl (fun _ hF => .assign cI) ?_
        refine S.sil 10 rfl rfl (fun _ hF => .assign cI) ?_
        refine S.nil ?_
        refine thenQ_n ?_
        refine AWp.ret ?_
        refine blockQ_r ?_
        refine thenQ_r ?_
        obtain rfl := h.ret
        exact endFN rfl (Wk.selS [] .nil rfl (SelE.leaf (lk 2 rfl rfl) rfl (.nils_no _) (fun m => (ty_S_THold.lt ([] : List THold) _)) (SelE.leaf (lk 1 rfl rfl) rfl (.refl _) (fun m => ((TyOk.int .i64).lt _ _)) (SelE.leaf (lk 0 rfl rfl) rfl (.refl _) (fun m => ((TyOk.int .i64).lt _ _)) .nil))) .nil) (.cons (.tmp (lk 0 rfl rfl) rfl) (.cons (.tmp (lk 1 rfl rfl) rfl) (.cons (.tmp (lk 2 rfl rfl) rfl) .nil))) rfl rfl rfl
      · skip
        refine AWp.skip ?_
        refine blockQ_n ?_
        refine thenQ_n ?_
        refine AWp.seq ?_
        refine W.reg [0, 1, 2] rfl ?_
        refine S.sil 39 rfl rfl (fun _ hF => .move (lk 5 rfl rfl)) ?_
        obtain ⟨l10, m10, h⟩ := h.bnd
        refine S.eff 40 rfl rfl (.nf (v2 := .slo 5 0 [] 0 0 l10.length 1) (H2 := [.buf 5 (List.map E_THold l10)]) (.callN ent54 cF [] (C_cloneO_54 m10) .nil .nil (ltL_c (ty_S_THold.lt _ _) ltL_nil) (.c (lk 0 rfl rfl) (vsubr (V.sub.refl _) (ty_S_THold.lt _ 0)) .nil) rfl (mapc (ren_buf ty_THold _) rfl) rfl) rfl rfl) trivial ?_
        refine S.sil 12 rfl rfl (fun _ hF => .assign (lk 0 rfl rfl)) ?_
        refine S.nil ?_
        refine thenQ_n ?_
        refine AWp.seq ?_
        refine W.reg [0, 1, 2, 3, 4, 5] rfl ?_
        refine S.sil 41 rfl rfl (fun _ hF => .move (lk 0 rfl rfl)) ?_
        refine S.sil 42 rfl rfl (fun _ hF => .move (lk 5 rfl rfl)) ?_
        refine S.sil 43 rfl rfl (fun _ hF => .move (lk 11 rfl rfl)) ?_
        obtain ⟨j11, m11, h⟩ := h.bnd
        refine S.sil 44 rfl rfl (fun _ hF => .ixO sli40 (lk 2 rfl rfl) (lk 1 rfl rfl) (by first | rfl | simp) m11) ?_
        refine S.sil 45 rfl rfl (fun _ hF => .fieldAddr lay101 rfl rfl (lk 0 rfl rfl)) ?_
        obtain ⟨v12, ev12, h⟩ := h.nam
        refine S.effN rfl rfl (.nf (H2 := [.buf 5 (List.map E_THold v12)]) (.storeB sz3 (lk 0 rfl rfl) (lk 2 rfl rfl) rfl (.refl _) rfl (.ls (by have := six_lt m11; simp at this ⊢; omega) (.st rfl (flL_c (show flen _ = 1 from rfl) (flL_c (show flen _ = 1 from rfl) (flL_c (show flen _ = 1 from rfl) (flL_c (show flen _ = 1 from rfl) flL_nil)))) .nil)) (by first | rfl | omega) (.ls ({ (l10.getD j11 default) with State := a4 }) (by have := six_lt m11; simp at this ⊢; omega) (.st rfl .nil rfl)) rfl rfl (congrArg (fun z => ([AObj.buf 5 (List.map E_THold z)] : List AObj)) ev12.symm)) rfl rfl) trivial ?_
        refine S.nil ?_
        refine thenQ_n ?_
        refine AWp.prune (.eq (lk 5 rfl rfl) rfl (.eq (lk 9 rfl rfl) rfl (.eq (lk 10 rfl rfl) rfl (.eq (lk 11 rfl rfl) rfl (.eq (lk 12 rfl rfl) rfl .nil))))) ?_
        refine AWp.seq ?_
        refine W.regD [0, 1, 2, 3, 4, 5, 6, 7, 8] mixed ?_
        refine S.sil 46 rfl rfl (fun _ hF => .move (lk 0 rfl rfl)) ?_
        refine S.sil 47 rfl rfl (fun _ hF => .move (lk 1 rfl rfl)) ?_
        refine S.sil 48 rfl rfl (fun _ hF => .move (lk 3 rfl rfl)) ?_
        obtain ⟨j13, m13, h⟩ := h.bnd
        refine S.sil 49 rfl rfl (fun _ hF => .ixO sli40 (lk 1 rfl rfl) (lk 0 rfl rfl) (by first | rfl | simp [ev12]) m13) ?_
        refine S.sil 50 rfl rfl (fun _ hF => .fieldAddr lay101 rfl rfl (lk 0 rfl rfl)) ?_
        refine S.qui 51 rfl rfl (fun _ => .loadB sz3 ag3 (lk 0 rfl rfl) rfl (.ls (by have := six_lt m13; simp at this ⊢; omega) (.st rfl (flL_c (show flen _ = 1 from rfl) (flL_c (show flen _ = 1 from rfl) flL_nil)) .nil)) (by first | rfl | omega) rfl rfl) ?_
        refine S.sil 8 rfl rfl (fun _ hF => .assign (lk 5 rfl rfl)) ?_
        obtain ⟨v14, ev14, h⟩ := h.nam
        refine S.sil 9 rfl rfl (fun _ hF => .nv (.assign (lk 1 rfl rfl)) (congrArg (V.int .i64) ev14.symm)) ?_
        refine S.sil 10 rfl rfl (fun _ hF => .assign cI) ?_
        refine S.nilD (by kernel_rfl) ?_
        refine thenQ_n ?_
        refine AWp.prune (.eq (lk 0 rfl rfl) rfl (.eq (lk 1 rfl rfl) rfl (.eq (lk 2 rfl rfl) rfl .nil))) ?_
        refine AWp.ret ?_
        refine endF_wk (Wk.freeze 0 rfl rfl (.same (lk 0 rfl rfl) (.same (lk 1 rfl rfl) (.cons (lk 2 rfl rfl) rfl (.slo (by first | rfl | simp [ev12])) .nil))) (.refl _)) ?_
        obtain rfl := h.ret
        exact endFN rfl (Wk.selS [] .nil rfl (SelE.leaf (lk 2 rfl rfl) rfl (.refl _) (fun m => (ty_S_THold.lt _ _)) (SelE.leaf (lk 1 rfl rfl) rfl (.refl _) (fun m => ((TyOk.int .i64).lt _ _)) (SelE.leaf (lk 0 rfl rfl) rfl (.refl _) (fun m => ((TyOk.int .i64).lt _ _)) .nil))) .nil) (.cons (.tmp (lk 0 rfl rfl) rfl) (.cons (.tmp (lk 1 rfl rfl) rfl) (.cons (.tmp (lk 2 rfl rfl) rfl) .nil))) rfl rfl rfl
theorem C_field_End {a1 : TField} {a2 : Int} {a3 : Int} {a4 : Int} {r : TField × Int} (h : field_End a1 a2 a3 a4 = some r) : PureC Pg 48 [E_TField a1, (V.int .i64) a2, (V.int .i64) a3, (V.int .i64) a4] (.tup [E_TField r.1, (V.int .i64) r.2]) := by
  refine PureC.ofF (CallSpec.of_bodyF 49 0 fn48 rfl rfl rfl (Nat.le_of_ble_eq_true rfl) ?_) (ltL_c (ty_TField.lt _ _) (ltL_c ((TyOk.int .i64).lt _ _) (ltL_c ((TyOk.int .i64).lt _ _) (ltL_c ((TyOk.int .i64).lt _ _) ltL_nil)))) (lt_tup (ltL_c (ty_TField.lt _ _) (ltL_c ((TyOk.int .i64).lt _ _) ltL_nil)))
  replace h := Ok.of h
  unfold field_End at h
  refine AWp.seq ?_
  refine W.reg [0, 1, 2] rfl ?_
  refine S.eff 4 rfl rfl (.nf (v2 := .ptr 0 [] 0) (H2 := [.cells (E_TField a1)]) (.box (lk 0 rfl rfl) rfl) rfl rfl) trivial ?_
  refine S.eff 8 rfl rfl (.nf (v2 := .ptr 1 [] 0) (H2 := [.cells (E_TField a1), .cells (.st [V.str (default : ByteArray), (V.int .i64) 0, (V.int .i64) 0, E_TCounter (default : TCounter), E_TLock (default : TLock), .nils])]) (.alloc zv42) rfl rfl) trivial ?_
  refine S.sil 9 rfl rfl (fun _ hF => .assign cI) ?_
  refine S.nil ?_
  refine thenQ_n ?_
  refine AWp.seq ?_
  refine AWp.seq ?_
  refine W.reg [0, 1, 2] rfl ?_
  refine S.sil 13 rfl rfl (fun _ hF => .fieldAddr lay42 rfl rfl (lk 2 rfl rfl)) ?_
  refine S.qui 14 rfl rfl (fun _ => .loadP sz3 ag3 (lk 0 rfl rfl) rfl (.st rfl (flL_c (show flen _ = 1 from rfl) flL_nil) .nil) (by first | rfl | omega) rfl rfl) ?_
  refine S.sil 15 rfl rfl (fun _ hF => .neq (lk 0 rfl rfl) cI) ?_
  refine S.nil ?_
  refine thenQ_n ?_
  refine AWp.condM (lk 0 rfl rfl) h (fun c1 h => ?_) (fun c1 h => ?_)
  · skip
    refine AWp.seq ?_
    refine W.reg [0, 1, 2] rfl ?_
    obtain ⟨v5, ev5, h⟩ := h.nam
    refine S.sil 16 rfl rfl (fun _ hF => .nv (.vs (v := .st [V.str (default : ByteArray), (V.int .i64) 0, (V.int .i64) 0, E_TCounter (default : TCounter), E_TLock (default : TLock), .nils]) (v2 := E_TField (⟨(default : ByteArray), 0, 0, (default : TCounter), (default : TLock), ([] : List THold)⟩ : TField)) (.buildStW lay42 zv42 rfl .nil) rfl (.st (.cons (.refl _) (.cons (.refl _) (.cons (.refl _) (.cons (.refl _) (.cons (.refl _) (.cons (.nils_no _) .nil)))))))) (congrArg E_TField ev5.symm)) ?_
    refine S.effN rfl rfl (.nf (H2 := [.cells (E_TField a1), .cells (E_TField v5)]) (.storeP sz42 (lk 5 rfl rfl) (lk 0 rfl rfl) rfl (.refl _) rfl .nil (by first | rfl | omega) .nil (ty_TField.fl v5) (fl_st (flL_c (show flen _ = 1 from rfl) (flL_c (show flen _ = 1 from rfl) (flL_c (show flen _ = 1 from rfl) (flL_c (ty_TCounter.fl (default : TCounter)) (flL_c (ty_TLock.fl (default : TLock)) (flL_c (show flen _ = 1 from rfl) flL_nil))))))) rfl) rfl rfl) trivial ?_
    refine S.sil 9 rfl rfl (fun _ hF => .assign cI) ?_
    refine S.nil ?_
    refine thenQ_n ?_
    refine AWp.ret ?_
    refine thenQ_r ?_
    refine endF_wk (Wk.freeze 1 rfl rfl (.same (lk 0 rfl rfl) (.same (lk 0 rfl rfl) (.cons (lk 6 rfl rfl) rfl (.ptr .nil (by first | rfl | omega)) .nil))) (.refl _)) ?_
    obtain rfl := h.ret
    exact endFN rfl (Wk.selS [] .nil rfl (SelE.leaf (lk 2 rfl rfl) rfl (.refl _) (fun m => (lt_cptr (ty_TField.lt _ _))) (SelE.leaf (lk 0 rfl rfl) rfl (.refl _) (fun m => ((TyOk.int .i64).lt _ _)) .nil)) .nil) (.cons (.cellC sz42 ag42 (lk 0 rfl rfl) (ty_TField.fl _) rfl) (.cons (.tmp (lk 1 rfl rfl) rfl) .nil)) rfl rfl rfl
  · skip
    refine AWp.skip ?_
    refine thenQ_n ?_
    refine AWp.seq ?_
    refine W.reg [0, 1, 2, 3, 4, 5, 6, 7, 8, 9, 10, 11, 12] rfl ?_
    refine S.sil 18 rfl rfl (fun _ hF => .fieldAddr lay42 rfl rfl (lk 5 rfl rfl)) ?_
    refine S.qui 19 rfl rfl (fun _ => .loadP sz40 ag40 (lk 0 rfl rfl) rfl (.st rfl (flL_c (show flen _ = 1 from rfl) (flL_c (show flen _ = 1 from rfl) (flL_c (show flen _ = 1 from rfl) (flL_c (ty_TCounter.fl a1.Counter) (flL_c (ty_TLock.fl a1.Lock) flL_nil))))) .nil) (by first | rfl | omega) rfl rfl) ?_
    refine S.sil 20 rfl rfl (fun _ hF => .move (lk 9 rfl rfl)) ?_
    refine S.sil 21 rfl rfl (fun _ hF => .move (lk 11 rfl rfl)) ?_
    refine S.sil 22 rfl rfl (fun _ hF => .move (lk 13 rfl rfl)) ?_
    obtain ⟨r6, m6, h⟩ := h.bnd
    refine S.sil 23 rfl rfl (fun _ hF => .callQ ent121 cF (.c (lk 3 rfl rfl) (V.sub.refl _) (.c (lk 2 rfl rfl) (V.sub.refl _) (.c (lk 1 rfl rfl) (V.sub.refl _) (.c (lk 0 rfl rfl) (V.sub.refl _) .nil)))) (C_hold_End m6)) ?_
    refine S.sil 17 rfl rfl (fun _ hF => .move (lk 0 rfl rfl)) ?_
    refine S.sil 24 rfl rfl (fun _ hF => .extract (lk 0 rfl rfl) rfl) ?_
    refine S.sil 25 rfl rfl (fun _ hF => .extract (lk 1 rfl rfl) rfl) ?_
    refine S.sil 26 rfl rfl (fun _ hF => .extract (lk 2 rfl rfl) rfl) ?_
    refine S.sil 10 rfl rfl (fun _ hF => .assign (lk 2 rfl rfl)) ?_
    refine S.sil 11 rfl rfl (fun _ hF => .assign (lk 2 rfl rfl)) ?_
    refine S.sil 12 rfl rfl (fun _ hF => .assign (lk 2 rfl rfl)) ?_
    refine S.nil ?_
    refine thenQ_n ?_
    refine AWp.prune (.eq (lk 0 rfl rfl) rfl (.eq (lk 1 rfl rfl) rfl (.eq (lk 2 rfl rfl) rfl (.eq (lk 16 rfl rfl) rfl (.eq (lk 17 rfl rfl) rfl (.eq (lk 18 rfl rfl) rfl (.eq (lk 20 rfl rfl) rfl (.eq (lk 22 rfl rfl) rfl .nil)))))))) ?_
    refine AWp.seq ?_
    refine AWp.seq ?_
    refine W.reg [0, 1, 2, 3, 4, 5] rfl ?_
    refine S.sil 27 rfl rfl (fun _ hF => .move (lk 0 rfl rfl)) ?_
    refine S.sil 28 rfl rfl (fun _ hF => .eql (lk 0 rfl rfl) cI) ?_
    refine S.sil 29 rfl rfl (fun _ hF => .move (lk 0 rfl rfl)) ?_
    refine S.gsil 30 2 29 true rfl rfl rfl (lk 0 rfl rfl) (fun hB _ hF => .move (lk 10 rfl rfl)) ?_
    refine S.gsil 31 2 29 true rfl rfl rfl (lk 1 rfl rfl) (fun hB _ hF => .eql (ifT hB (lk 0 rfl rfl)) cI) ?_
    refine S.sil 32 rfl rfl (fun _ hF => .pickAnd (lk 2 rfl rfl) (fun h => ifT h (lk 0 rfl rfl)) cB) ?_
    refine S.nil ?_
    refine thenQ_n ?_
    refine AWp.condM (lk 0 rfl rfl) h (fun c2 h => ?_) (fun c2 h => ?_)
    · skip
      refine W.reg [0, 1, 2, 3, 4, 5, 6, 7, 8, 9, 10] rfl ?_
      refine S.sil 34 rfl rfl (fun _ hF => .fieldAddr lay42 rfl rfl (lk 11 rfl rfl)) ?_
      refine S.qui 35 rfl rfl (fun _ => .loadP sz37 ag37 (lk 0 rfl rfl) rfl (.st rfl (flL_c (show flen _ = 1 from rfl) (flL_c (show flen _ = 1 from rfl) (flL_c (show flen _ = 1 from rfl) flL_nil))) .nil) (by first | rfl | omega) (ty_TCounter.fl a1.Counter) rfl) ?_
      refine S.sil 36 rfl rfl (fun _ hF => .move (lk 14 rfl rfl)) ?_
      refine S.sil 37 rfl rfl (fun _ hF => .move (lk 10 rfl rfl)) ?_
      obtain ⟨r7, m7, h⟩ := h.bnd
      refine S.sil 38 rfl rfl (fun _ hF => .callQ ent79 cF (.c (lk 2 rfl rfl) (V.sub.refl _) (.c (lk 1 rfl rfl) (V.sub.refl _) (.c (lk 0 rfl rfl) (V.sub.refl _) .nil))) (C_counter_Dec m7)) ?_
      refine S.sil 33 rfl rfl (fun _ hF => .move (lk 0 rfl rfl)) ?_
      refine S.sil 39 rfl rfl (fun _ hF => .extract (lk 0 rfl rfl) rfl) ?_
      refine S.sil 40 rfl rfl (fun _ hF => .extract (lk 1 rfl rfl) rfl) ?_
      refine S.sil 41 rfl rfl (fun _ hF => .fieldAddr lay42 rfl rfl (lk 19 rfl rfl)) ?_
      obtain ⟨v8, ev8, h⟩ := h.nam
      refine S.effN rfl rfl (.nf (H2 := [.cells (E_TField v8), .cells (.st [V.str (default : ByteArray), (V.int .i64) 0, (V.int .i64) 0, E_TCounter (default : TCounter), E_TLock (default : TLock), .nils])]) (.storeP sz37 (lk 0 rfl rfl) (lk 2 rfl rfl) rfl (.refl _) rfl (.st rfl (flL_c (show flen _ = 1 from rfl) (flL_c (show flen _ = 1 from rfl) (flL_c (show flen _ = 1 from rfl) flL_nil))) .nil) (by first | rfl | omega) (.st rfl .nil rfl) (ty_TCounter.fl r7.1) (ty_TCounter.fl a1.Counter) (congrArg (fun z => ([AObj.cells (E_TField z), .cells (.st [V.str (default : ByteArray), (V.int .i64) 0, (V.int .i64) 0, E_TCounter (default : TCounter), E_TLock (default : TLock), .nils])] : List AObj)) ev8.symm)) rfl rfl) trivial ?_
      refine S.sil 12 rfl rfl (fun _ hF => .assign (lk 1 rfl rfl)) ?_
      refine S.nil ?_
      refine thenQ_n ?_
      refine AWp.prune (.eq (lk 0 rfl rfl) rfl (.eq (lk 18 rfl rfl) rfl (.eq (lk 19 rfl rfl) rfl (.eq (lk 20 rfl rfl) rfl (.eq (lk 21 rfl rfl) rfl .nil))))) ?_
      refine AWp.seq ?_
      refine W.reg [0, 1, 2] rfl ?_
      refine S.sil 42 rfl rfl (fun _ hF => .move (lk 1 rfl rfl)) ?_
      refine S.sil 43 rfl rfl (fun _ hF => .fieldAddr lay42 rfl rfl (lk 5 rfl rfl)) ?_
      obtain ⟨v9, ev9, h⟩ := h.nam
      refine S.effN rfl rfl (.nf (H2 := [.cells (E_TField v9), .cells (.st [V.str (default : ByteArray), (V.int .i64) 0, (V.int .i64) 0, E_TCounter (default : TCounter), E_TLock (default : TLock), .nils])]) (.storeP sz40 (lk 0 rfl rfl) (lk 1 rfl rfl) rfl (.refl _) rfl (.st rfl (flL_c (show flen _ = 1 from rfl) (flL_c (show flen _ = 1 from rfl) (flL_c (show flen _ = 1 from rfl) (flL_c (ty_TCounter.fl v8.Counter) (flL_c (ty_TLock.fl v8.Lock) flL_nil))))) .nil) (by first | rfl | omega) (.st rfl .nil rfl) rfl rfl (congrArg (fun z => ([AObj.cells (E_TField z), .cells (.st [V.str (default : ByteArray), (V.int .i64) 0, (V.int .i64) 0, E_TCounter (default : TCounter), E_TLock (default : TLock), .nils])] : List AObj)) ev9.symm)) rfl rfl) trivial ?_
      refine S.nil ?_
      refine thenQ_n ?_
      refine AWp.seq ?_
      refine W.reg [0, 1, 2, 3, 4, 5, 6] rfl ?_
      refine S.qui 44 rfl rfl (fun _ => .loadP sz42 ag42 (lk 6 rfl rfl) rfl .nil (by first | rfl | omega) (ty_TField.fl v9) rfl) ?_
      refine S.sil 45 rfl rfl (fun _ hF => .move (lk 3 rfl rfl)) ?_
      obtain ⟨r10, m10, h⟩ := h.bnd
      refine S.sil 46 rfl rfl (fun _ hF => .callQ ent116 cF (.c (lk 1 rfl rfl) (V.sub.refl _) (.c (lk 0 rfl rfl) (V.sub.refl _) .nil)) (C_field_done m10)) ?_
      refine S.sil 47 rfl rfl (fun _ hF => .extract (lk 0 rfl rfl) rfl) ?_
      refine S.sil 48 rfl rfl (fun _ hF => .extract (lk 1 rfl rfl) rfl) ?_
      refine S.effN rfl rfl (.nf (H2 := [.cells (E_TField v9), .cells (E_TField r10.1)]) (.storeP sz42 (lk 10 rfl rfl) (lk 1 rfl rfl) rfl (.refl _) rfl .nil (by first | rfl | omega) .nil (ty_TField.fl r10.1) (fl_st (flL_c (show flen _ = 1 from rfl) (flL_c (show flen _ = 1 from rfl) (flL_c (show flen _ = 1 from rfl) (flL_c (ty_TCounter.fl (default : TCounter)) (flL_c (ty_TLock.fl (default : TLock)) (flL_c (show flen _ = 1 from rfl) flL_nil))))))) rfl) rfl rfl) trivial ?_
      refine S.sil 9 rfl rfl (fun _ hF => .assign (lk 0 rfl rfl)) ?_
      refine S.nil ?_
      refine thenQ_n ?_
      refine AWp.prune (.eq (lk 0 rfl rfl) rfl (.eq (lk 11 rfl rfl) rfl .nil)) ?_
      refine AWp.ret ?_
      refine endF_wk (Wk.freeze 1 rfl rfl (.same (lk 0 rfl rfl) (.cons (lk 1 rfl rfl) rfl (.ptr .nil (by first | rfl | omega)) .nil)) (.refl _)) ?_
      obtain rfl := h.ret
      exact endFN rfl (Wk.selS [] .nil rfl (SelE.leaf (lk 1 rfl rfl) rfl (.refl _) (fun m => (lt_cptr (ty_TField.lt _ _))) (SelE.leaf (lk 0 rfl rfl) rfl (.refl _) (fun m => ((TyOk.int .i64).lt _ _)) .nil)) .nil) (.cons (.cellC sz42 ag42 (lk 0 rfl rfl) (ty_TField.fl _) rfl) (.cons (.tmp (lk 1 rfl rfl) rfl) .nil)) rfl rfl rfl
    · skip
      refine AWp.skip ?_
      refine thenQ_n ?_
      refine AWp.seq ?_
      refine W.reg [0, 1, 2] rfl ?_
      refine S.sil 42 rfl rfl (fun _ hF => .move (lk 8 rfl rfl)) ?_
      refine S.sil 43 rfl rfl (fun _ hF => .fieldAddr lay42 rfl rfl (lk 12 rfl rfl)) ?_
      obtain ⟨v11, ev11, h⟩ := h.nam
      refine S.effN rfl rfl (.nf (H2 := [.cells (E_TField v11), .cells (.st [V.str (default : ByteArray), (V.int .i64) 0, (V.int .i64) 0, E_TCounter (default : TCounter), E_TLock (default : TLock), .nils])]) (.storeP sz40 (lk 0 rfl rfl) (lk 1 rfl rfl) rfl (.refl _) rfl (.st rfl (flL_c (show flen _ = 1 from rfl) (flL_c (show flen _ = 1 from rfl) (flL_c (show flen _ = 1 from rfl) (flL_c (ty_TCounter.fl a1.Counter) (flL_c (ty_TLock.fl a1.Lock) flL_nil))))) .nil) (by first | rfl | omega) (.st rfl .nil rfl) rfl rfl (congrArg (fun z => ([AObj.cells (E_TField z), .cells (.st [V.str (default : ByteArray), (V.int .i64) 0, (V.int .i64) 0, E_TCounter (default : TCounter), E_TLock (default : TLock), .nils])] : List AObj)) ev11.symm)) rfl rfl) trivial ?_
      refine S.nil ?_
      refine thenQ_n ?_
      refine AWp.prune (.eq (lk 8 rfl rfl) rfl (.eq (lk 11 rfl rfl) rfl (.eq (lk 12 rfl rfl) rfl (.eq (lk 13 rfl rfl) rfl .nil)))) ?_
      refine AWp.seq ?_
      refine W.reg [0, 1, 2, 3, 4, 5, 6] rfl ?_
      refine S.qui 44 rfl rfl (fun _ => .loadP sz42 ag42 (lk 3 rfl rfl) rfl .nil (by first | rfl | omega) (ty_TField.fl v11) rfl) ?_
      refine S.sil 45 rfl rfl (fun _ hF => .move (lk 1 rfl rfl)) ?_
      obtain ⟨r12, m12, h⟩ := h.bnd
      refine S.sil 46 rfl rfl (fun _ hF => .callQ ent116 cF (.c (lk 1 rfl rfl) (V.sub.refl _) (.c (lk 0 rfl rfl) (V.sub.refl _) .nil)) (C_field_done m12)) ?_
      refine S.sil 47 rfl rfl (fun _ hF => .extract (lk 0 rfl rfl) rfl) ?_
      refine S.sil 48 rfl rfl (fun _ hF => .extract (lk 1 rfl rfl) rfl) ?_
      refine S.effN rfl rfl (.nf (H2 := [.cells (E_TField v11), .cells (E_TField r12.1)]) (.storeP sz42 (lk 7 rfl rfl) (lk 1 rfl rfl) rfl (.refl _) rfl .nil (by first | rfl | omega) .nil (ty_TField.fl r12.1) (fl_st (flL_c (show flen _ = 1 from rfl) (flL_c (show flen _ = 1 from rfl) (flL_c (show flen _ = 1 from rfl) (flL_c (ty_TCounter.fl (default : TCounter)) (flL_c (ty_TLock.fl (default : TLock)) (flL_c (show flen _ = 1 from rfl) flL_nil))))))) rfl) rfl rfl) trivial ?_
      refine S.sil 9 rfl rfl (fun _ hF => .assign (lk 0 rfl rfl)) ?_
      refine S.nil ?_
      refine thenQ_n ?_
      refine AWp.ret ?_
      refine endF_wk (Wk.freeze 1 rfl rfl (.same (lk 0 rfl rfl) (.same (lk 0 rfl rfl) (.cons (lk 8 rfl rfl) rfl (.ptr .nil (by first | rfl | omega)) .nil))) (.refl _)) ?_
      obtain rfl := h.ret
      exact endFN rfl (Wk.selS [] .nil rfl (SelE.leaf (lk 2 rfl rfl) rfl (.refl _) (fun m => (lt_cptr (ty_TField.lt _ _))) (SelE.leaf (lk 0 rfl rfl) rfl (.refl _) (fun m => ((TyOk.int .i64).lt _ _)) .nil)) .nil) (.cons (.cellC sz42 ag42 (lk 0 rfl rfl) (ty_TField.fl _) rfl) (.cons (.tmp (lk 1 rfl rfl) rfl) .nil)) rfl rfl rfl
theorem C_counter_Value {a1 : TCounter} {r : Int × Int} (h : counter_Value a1 = some r) : PureC Pg 122 [E_TCounter a1] (.tup [(V.int .i64) r.1, (V.int .i64) r.2]) := by
  refine PureC.ofF (CallSpec.of_bodyF 30 0 fn122 rfl rfl rfl (Nat.le_of_ble_eq_true rfl) ?_) (ltL_c (ty_TCounter.lt _ _) ltL_nil) (lt_tup (ltL_c ((TyOk.int .i64).lt _ _) (ltL_c ((TyOk.int .i64).lt _ _) ltL_nil)))
  replace h := Ok.of h
  unfold counter_Value at h
  refine AWp.seq ?_
  refine W.reg [0, 1, 2] rfl ?_
  refine S.eff 1 rfl rfl (.nf (v2 := .ptr 0 [] 0) (H2 := [.cells (E_TCounter a1)]) (.box (lk 0 rfl rfl) rfl) rfl rfl) trivial ?_
  refine S.sil 2 rfl rfl (fun _ hF => .assign cI) ?_
  refine S.sil 3 rfl rfl (fun _ hF => .assign cI) ?_
  refine S.nil ?_
  refine thenQ_n ?_
  refine AWp.wk (Wk.freeze 0 rfl rfl (.same (lk 0 rfl rfl) (.same (lk 1 rfl rfl) (.cons (lk 2 rfl rfl) rfl (.ptr .nil (by first | rfl | omega)) .nil))) (.refl _)) ?_
  refine AWp.seq ?_
  refine W.regD [0, 1, 2, 3, 4, 5, 6, 7] mixed ?_
  refine S.sil 7 rfl rfl (fun _ hF => .fieldAddrC lay37 rfl rfl (lk 2 rfl rfl) rfl flL_nil) ?_
  refine S.sil 8 rfl rfl (fun _ hF => .loadC sz3 ag3 (lk 0 rfl rfl) rfl rfl) ?_
  refine S.sil 9 rfl rfl (fun _ hF => .buildSliceW sli153 zv3 rfl rfl (by decide) (.cons (lk 0 rfl rfl) rfl (.refl _) rfl .nil)) ?_
  refine S.sil 10 rfl rfl (fun _ hF => .fieldAddrC lay37 rfl rfl (lk 5 rfl rfl) rfl (flL_c (show flen _ = 1 from rfl) (flL_c (show flen _ = 1 from rfl) (flL_c (show flen _ = 1 from rfl) (flL_c (ty_TRights.fl a1.Down) flL_nil))))) ?_
  refine S.sil 11 rfl rfl (fun _ hF => .fieldAddrC lay35 rfl rfl (lk 0 rfl rfl) rfl (flL_c (ty_A16_i64.fl a1.Up.Given) flL_nil)) ?_
  refine S.sil 12 rfl rfl (fun _ hF => .sliceArr arr32 (lk 0 rfl rfl) (by simp)) ?_
  obtain ⟨l2, m2, h⟩ := h.bnd
  refine S.new 13 rfl rfl (.appX sli153 und153 zv3 rfl (by decide) (lk 3 rfl rfl) (V.sub.refl _) (lk 0 rfl rfl) Rd.sl m2 rfl) trivial ?_
  refine S.sil 4 rfl rfl (fun _ hF => .assign (lk 0 rfl rfl)) ?_
  refine S.nilD (by kernel_rfl) ?_
  refine thenQ_n ?_
  refine AWp.seq ?_
  refine AWp.seq ?_
  refine W.reg [0, 1, 2, 3] rfl ?_
  refine S.sil 14 rfl rfl (fun _ hF => .fieldAddrC lay37 rfl rfl (lk 10 rfl rfl) rfl (flL_c (show flen _ = 1 from rfl) (flL_c (show flen _ = 1 from rfl) (flL_c (show flen _ = 1 from rfl) flL_nil)))) ?_
  refine S.sil 15 rfl rfl (fun _ hF => .fieldAddrC lay35 rfl rfl (lk 0 rfl rfl) rfl (flL_c (ty_A16_i64.fl a1.Down.Given) flL_nil)) ?_
  refine S.sil 16 rfl rfl (fun _ hF => .loadC sz32 ag32 (lk 0 rfl rfl) (ty_A16_i64.fl a1.Down.Used) rfl) ?_
  refine S.sil 17 rfl rfl (fun _ hF => .move cI) ?_
  refine S.nil ?_
  refine thenQ_n ?_
  refine AWp.prune (.eq (lk 0 rfl rfl) rfl (.eq (lk 1 rfl rfl) rfl (.eq (lk 4 rfl rfl) rfl (.eq (lk 12 rfl rfl) rfl (.eq (lk 13 rfl rfl) rfl .nil))))) ?_
  refine AWp.cutX (fun x5 => ⟨[(4, .sl 1 (.tok 0) (List.map (V.int .i64) x5)), (3, (V.int .i64) 0), (2, (V.int .i64) 0)], [.tail]⟩) nc_then h (fun q3 hq3 => ?_) (fun x5 h => ?_)
  · refine AWp.block ?_
    refine AWp.loopT (fun s4 => ⟨[(17, (V.int .i64) s4.1), (16, E_A16_i64 a1.Down.Used), (4, .sl 1 (.tok 0) (List.map (V.int .i64) s4.2)), (3, (V.int .i64) 0), (2, (V.int .i64) 0)], [.tail]⟩) hq3 (Wk.selS [1] (by decide) rfl (SelE.leaf (lk 0 rfl rfl) rfl (.refl _) (fun m => ((TyOk.int .i64).lt _ _)) (SelE.leaf (lk 1 rfl rfl) rfl (.refl _) (fun m => (ty_A16_i64.lt _ _)) (SelE.spec (lk 2 rfl rfl) rfl (.refl _) (ren_sl (TyOk.int .i64) _) (lt_sl rfl ((TyOk.int .i64).ltm _ _)) (SelE.leaf (lk 3 rfl rfl) rfl (.refl _) (fun m => ((TyOk.int .i64).lt _ _)) (SelE.leaf (lk 4 rfl rfl) rfl (.refl _) (fun m => ((TyOk.int .i64).lt _ _)) .nil))))) (.cons rfl rfl trivial .nil)) (fun _ s4 h3 => ?_)
    rw [counter_Value_L1] at h3
    refine AWp.seq ?_
    refine W.reg [0] rfl ?_
    refine S.sil 18 rfl rfl (fun _ hF => .lss (lk 0 rfl rfl) cI) ?_
    refine S.nil ?_
    refine thenQ_n ?_
    refine AWp.seq ?_
    refine AWp.condM (lk 0 rfl rfl) h3 (fun c1 h3 => ?_) (fun c1 h3 => ?_)
    · skip
      refine AWp.skip ?_
      refine thenQ_n ?_
      refine AWp.seq ?_
      refine AWp.block ?_
      refine AWp.seq ?_
      refine W.reg [0, 1] rfl ?_
      obtain ⟨k6, m6, h3⟩ := h3.bnd
      refine S.sil 19 rfl rfl (fun _ hF => .ixV arr32 (lk 2 rfl rfl) (lk 1 rfl rfl) m6 rfl) ?_
      refine S.sil 6 rfl rfl (fun _ hF => .assign (lk 0 rfl rfl)) ?_
      refine S.nil ?_
      refine thenQ_n ?_
      refine W.reg [0, 1, 2, 3, 4, 5] rfl ?_
      refine S.sil 20 rfl rfl (fun _ hF => .move (lk 5 rfl rfl)) ?_
      refine S.sil 21 rfl rfl (fun _ hF => .move (lk 1 rfl rfl)) ?_
      refine S.sil 22 rfl rfl (fun _ hF => .neg (lk 0 rfl rfl)) ?_
      refine S.sil 23 rfl rfl (fun _ hF => .buildSliceW sli153 zv3 rfl rfl (by decide) (.cons (lk 0 rfl rfl) rfl (.refl _) rfl .nil)) ?_
      obtain ⟨l7, m7, h3⟩ := h3.bnd
      refine S.eff 24 rfl rfl (.nf (v2 := .sl 1 (.tok 1) (List.map (V.int .i64) l7)) (H2 := [.dead, .tail]) (.appT sli153 und153 zv3 rfl (by decide) (lk 3 rfl rfl) rfl (lk 0 rfl rfl) Rd.sl m7 rfl) rfl rfl) trivial ?_
      refine S.sil 4 rfl rfl (fun _ hF => .assign (lk 0 rfl rfl)) ?_
      refine S.nil ?_
      refine blockQ_n ?_
      refine thenQ_n ?_
      refine W.reg [0, 1] rfl ?_
      refine S.sil 25 rfl rfl (fun _ hF => .add (lk 9 rfl rfl) cI) ?_
      refine S.sil 17 rfl rfl (fun _ hF => .move (lk 0 rfl rfl)) ?_
      refine S.nil ?_
      refine thenQ_n ?_
      exact ⟨_, h3.ret, (Wk.selS [1] (by decide) rfl (SelE.leaf (lk 0 rfl rfl) rfl (.refl _) (fun m => ((TyOk.int .i64).lt _ _)) (SelE.leaf (lk 12 rfl rfl) rfl (.refl _) (fun m => (ty_A16_i64.lt _ _)) (SelE.spec (lk 2 rfl rfl) rfl (.refl _) (ren_sl (TyOk.int .i64) _) (lt_sl rfl ((TyOk.int .i64).ltm _ _)) (SelE.leaf (lk 14 rfl rfl) rfl (.refl _) (fun m => ((TyOk.int .i64).lt _ _)) (SelE.leaf (lk 15 rfl rfl) rfl (.refl _) (fun m => ((TyOk.int .i64).lt _ _)) .nil))))) (.cons rfl rfl trivial .nil))⟩
    · skip
      refine AWp.exit ?_
      refine thenQ_x ?_
      refine thenQ_x ?_
      refine blockQ_x ?_
      refine thenQ_n ?_
      exact ⟨_, h3.ret, (Wk.selS [0] (by decide) rfl (SelE.spec (lk 3 rfl rfl) rfl (.refl _) (ren_sl (TyOk.int .i64) _) (lt_sl rfl ((TyOk.int .i64).ltm _ _)) (SelE.leaf (lk 4 rfl rfl) rfl (.refl _) (fun m => ((TyOk.int .i64).lt _ _)) (SelE.leaf (lk 5 rfl rfl) rfl (.refl _) (fun m => ((TyOk.int .i64).lt _ _)) .nil))) (.cons rfl rfl trivial .nil))⟩
  · skip
    refine thenQ_n ?_
    refine AWp.seq ?_
    refine W.reg [0, 1, 2, 3, 4, 5] rfl ?_
    refine S.sil 26 rfl rfl (fun _ hF => .move (lk 0 rfl rfl)) ?_
    obtain ⟨r8, m8, h⟩ := h.bnd
    refine S.sil 27 rfl rfl (fun _ hF => .callQ ent123 cF (.c (lk 0 rfl rfl) (vsub rfl (.forget _ _ _)) .nil) (C_num_Sum m8)) ?_
    refine S.sil 28 rfl rfl (fun _ hF => .extract (lk 0 rfl rfl) rfl) ?_
    refine S.sil 29 rfl rfl (fun _ hF => .extract (lk 1 rfl rfl) rfl) ?_
    refine S.sil 2 rfl rfl (fun _ hF => .assign (lk 1 rfl rfl)) ?_
    refine S.sil 3 rfl rfl (fun _ hF => .assign (lk 1 rfl rfl)) ?_
    refine S.nil ?_
    refine thenQ_n ?_
    refine AWp.ret ?_
    obtain rfl := h.ret
    exact endFN rfl (Wk.selS [] .nil rfl (SelE.leaf (lk 1 rfl rfl) rfl (.refl _) (fun m => ((TyOk.int .i64).lt _ _)) (SelE.leaf (lk 0 rfl rfl) rfl (.refl _) (fun m => ((TyOk.int .i64).lt _ _)) .nil)) .nil) (.cons (.tmp (lk 0 rfl rfl) rfl) (.cons (.tmp (lk 1 rfl rfl) rfl) .nil)) rfl rfl rfl
theorem C_field_View {a1 : TField} {r : Int × Int} (h : field_View a1 = some r) : PureC Pg 49 [E_TField a1] (.tup [(V.int .i64) r.1, (V.int .i64) r.2]) := by
  refine PureC.ofF (CallSpec.of_bodyF 18 0 fn49 rfl rfl rfl (Nat.le_of_ble_eq_true rfl) ?_) (ltL_c (ty_TField.lt _ _) ltL_nil) (lt_tup (ltL_c ((TyOk.int .i64).lt _ _) (ltL_c ((TyOk.int .i64).lt _ _) ltL_nil)))
  replace h := Ok.of h
  unfold field_View at h
  refine AWp.seq ?_
  refine W.reg [0, 1, 2] rfl ?_
  refine S.eff 1 rfl rfl (.nf (v2 := .ptr 0 [] 0) (H2 := [.cells (E_TField a1)]) (.box (lk 0 rfl rfl) rfl) rfl rfl) trivial ?_
  refine S.sil 2 rfl rfl (fun _ hF => .assign cI) ?_
  refine S.sil 3 rfl rfl (fun _ hF => .assign cI) ?_
  refine S.nil ?_
  refine thenQ_n ?_
  refine AWp.wk (Wk.freeze 0 rfl rfl (.same (lk 0 rfl rfl) (.same (lk 1 rfl rfl) (.cons (lk 2 rfl rfl) rfl (.ptr .nil (by first | rfl | omega)) .nil))) (.refl _)) ?_
  refine AWp.seq ?_
  refine AWp.seq ?_
  refine W.reg [0, 1] rfl ?_
  refine S.sil 4 rfl rfl (fun _ hF => .fieldAddrC lay42 rfl rfl (lk 2 rfl rfl) rfl (flL_c (show flen _ = 1 from rfl) flL_nil)) ?_
  refine S.sil 5 rfl rfl (fun _ hF => .loadC sz3 ag3 (lk 0 rfl rfl) rfl rfl) ?_
  refine S.nil ?_
  refine thenQ_n ?_
  refine AWp.block ?_
  refine AWp.seq ?_
  refine W.reg [0, 1] rfl ?_
  refine S.sil 7 rfl rfl (fun _ hF => .eql (lk 0 rfl rfl) cI) ?_
  refine S.sil 6 rfl rfl (fun _ hF => .assign (lk 0 rfl rfl)) ?_
  refine S.nil ?_
  refine thenQ_n ?_
  refine AWp.condM (lk 0 rfl rfl) h (fun c1 h => ?_) (fun c1 h => ?_)
  · skip
    refine AWp.seq ?_
    refine W.reg [0, 1, 2, 3, 4, 5, 6] rfl ?_
    refine S.sil 8 rfl rfl (fun _ hF => .fieldAddrC lay42 rfl rfl (lk 6 rfl rfl) rfl (flL_c (show flen _ = 1 from rfl) (flL_c (show flen _ = 1 from rfl) (flL_c (show flen _ = 1 from rfl) flL_nil)))) ?_
    refine S.sil 9 rfl rfl (fun _ hF => .loadC sz37 ag37 (lk 0 rfl rfl) (ty_TCounter.fl a1.Counter) rfl) ?_
    obtain ⟨r2, m2, h⟩ := h.bnd
    refine S.sil 10 rfl rfl (fun _ hF => .callQ ent122 cF (.c (lk 0 rfl rfl) (V.sub.refl _) .nil) (C_counter_Value m2)) ?_
    refine S.sil 11 rfl rfl (fun _ hF => .extract (lk 0 rfl rfl) rfl) ?_
    refine S.sil 12 rfl rfl (fun _ hF => .extract (lk 1 rfl rfl) rfl) ?_
    refine S.sil 2 rfl rfl (fun _ hF => .assign (lk 1 rfl rfl)) ?_
    refine S.sil 3 rfl rfl (fun _ hF => .assign (lk 1 rfl rfl)) ?_
    refine S.nil ?_
    refine thenQ_n ?_
    refine AWp.prune (.eq (lk 0 rfl rfl) rfl (.eq (lk 1 rfl rfl) rfl .nil)) ?_
    refine AWp.ret ?_
    refine blockQ_r ?_
    refine thenQ_r ?_
    obtain rfl := h.ret
    exact endFN rfl (Wk.selS [] .nil rfl (SelE.leaf (lk 1 rfl rfl) rfl (.refl _) (fun m => ((TyOk.int .i64).lt _ _)) (SelE.leaf (lk 0 rfl rfl) rfl (.refl _) (fun m => ((TyOk.int .i64).lt _ _)) .nil)) .nil) (.cons (.tmp (lk 0 rfl rfl) rfl) (.cons (.tmp (lk 1 rfl rfl) rfl) .nil)) rfl rfl rfl
  · skip
    refine AWp.seq ?_
    refine W.reg [0, 1] rfl ?_
    refine S.sil 14 rfl rfl (fun _ hF => .eql (lk 2 rfl rfl) cI) ?_
    refine S.sil 13 rfl rfl (fun _ hF => .assign (lk 0 rfl rfl)) ?_
    refine S.nil ?_
    refine thenQ_n ?_
    refine AWp.condM (lk 0 rfl rfl) h (fun c2 h => ?_) (fun c2 h => ?_)
    · skip
      refine AWp.seq ?_
      refine W.reg [0, 1, 2, 3, 4] rfl ?_
      refine S.sil 15 rfl rfl (fun _ hF => .fieldAddrC lay42 rfl rfl (lk 8 rfl rfl) rfl (flL_c (show flen _ = 1 from rfl) (flL_c (show flen _ = 1 from rfl) (flL_c (show flen _ = 1 from rfl) (flL_c (ty_TCounter.fl a1.Counter) flL_nil))))) ?_
      refine S.sil 16 rfl rfl (fun _ hF => .fieldAddrC lay39 rfl rfl (lk 0 rfl rfl) rfl (flL_c (show flen _ = 1 from rfl) (flL_c (show flen _ = 1 from rfl) (flL_c (show flen _ = 1 from rfl) flL_nil)))) ?_
      refine S.sil 17 rfl rfl (fun _ hF => .loadC sz3 ag3 (lk 0 rfl rfl) rfl rfl) ?_
      refine S.sil 2 rfl rfl (fun _ hF => .assign (lk 0 rfl rfl)) ?_
      refine S.sil 3 rfl rfl (fun _ hF => .assign cI) ?_
      refine S.nil ?_
      refine thenQ_n ?_
      refine AWp.prune (.eq (lk 0 rfl rfl) rfl (.eq (lk 1 rfl rfl) rfl .nil)) ?_
      refine AWp.ret ?_
      refine blockQ_r ?_
      refine thenQ_r ?_
      obtain rfl := h.ret
      exact endFN rfl (Wk.selS [] .nil rfl (SelE.leaf (lk 1 rfl rfl) rfl (.refl _) (fun m => ((TyOk.int .i64).lt _ _)) (SelE.leaf (lk 0 rfl rfl) rfl (.refl _) (fun m => ((TyOk.int .i64).lt _ _)) .nil)) .nil) (.cons (.tmp (lk 0 rfl rfl) rfl) (.cons (.tmp (lk 1 rfl rfl) rfl) .nil)) rfl rfl rfl
    · skip
      refine AWp.skip ?_
      refine blockQ_n ?_
      refine thenQ_n ?_
      refine AWp.seq ?_
      refine W.reg [0, 1] rfl ?_
      refine S.sil 2 rfl rfl (fun _ hF => .assign cI) ?_
      refine S.sil 3 rfl rfl (fun _ hF => .assign cI) ?_
      refine S.nil ?_
      refine thenQ_n ?_
      refine AWp.ret ?_
      obtain rfl := h.ret
      exact endFN rfl (Wk.selS [] .nil rfl (SelE.leaf (lk 1 rfl rfl) rfl (.refl _) (fun m => ((TyOk.int .i64).lt _ _)) (SelE.leaf (lk 0 rfl rfl) rfl (.refl _) (fun m => ((TyOk.int .i64).lt _ _)) .nil)) .nil) (.cons (.tmp (lk 0 rfl rfl) rfl) (.cons (.tmp (lk 1 rfl rfl) rfl) .nil)) rfl rfl rfl
theorem C_vec_Right {a1 : Vector Int 16} {r : Bool} (h : vec_Right a1 = some r) : PureC Pg 230 [E_A16_i64 a1] (V.bool r) := by
  refine PureC.ofF (CallSpec.of_bodyF 17 0 fn230 rfl rfl rfl (Nat.le_of_ble_eq_true rfl) ?_) (ltL_c (ty_A16_i64.lt _ _) ltL_nil) (TyOk.bool.lt _ _)
  replace h := Ok.of h
  unfold vec_Right at h
  refine AWp.seq ?_
  refine W.reg [0, 1] rfl ?_
  refine S.eff 1 rfl rfl (.nf (v2 := .ptr 0 [] 0) (H2 := [.cells (E_A16_i64 a1)]) (.box (lk 0 rfl rfl) rfl) rfl rfl) trivial ?_
  refine S.sil 2 rfl rfl (fun _ hF => .assign cB) ?_
  refine S.nil ?_
  refine thenQ_n ?_
  refine AWp.wk (Wk.freeze 0 rfl rfl (.same (lk 0 rfl rfl) (.cons (lk 1 rfl rfl) rfl (.ptr .nil (by first | rfl | omega)) .nil)) (.refl _)) ?_
  refine AWp.seq ?_
  refine AWp.seq ?_
  refine W.reg [0, 1] rfl ?_
  refine S.sil 5 rfl rfl (fun _ hF => .loadC sz32 ag32 (lk 1 rfl rfl) (ty_A16_i64.fl a1) rfl) ?_
  refine S.sil 6 rfl rfl (fun _ hF => .move cI) ?_
  refine S.nil ?_
  refine thenQ_n ?_
  refine AWp.cutL (fun x4 => ⟨[(2, V.bool false)], []⟩) nc_then h (fun q2 hq2 h => ?_) (fun x4 h => ?_)
  · refine AWp.block ?_
    refine AWp.loopT (fun s3 => ⟨[(6, (V.int .i64) s3), (5, E_A16_i64 a1), (2, V.bool false)], []⟩) hq2 (Wk.selS [] (by decide) rfl (SelE.leaf (lk 0 rfl rfl) rfl (.refl _) (fun m => ((TyOk.int .i64).lt _ _)) (SelE.leaf (lk 1 rfl rfl) rfl (.refl _) (fun m => (ty_A16_i64.lt _ _)) (SelE.leaf (lk 2 rfl rfl) rfl (.refl _) (fun m => (TyOk.bool.lt _ _)) .nil))) .nil) (fun _ s3 h2 => ?_)
    rw [vec_Right_L1] at h2
    refine AWp.seq ?_
    refine W.reg [0] rfl ?_
    refine S.sil 7 rfl rfl (fun _ hF => .lss (lk 0 rfl rfl) cI) ?_
    refine S.nil ?_
    refine thenQ_n ?_
    refine AWp.seq ?_
    refine AWp.condM (lk 0 rfl rfl) h2 (fun c1 h2 => ?_) (fun c1 h2 => ?_)
    · skip
      refine AWp.skip ?_
      refine thenQ_n ?_
      refine AWp.seq ?_
      refine AWp.block ?_
      refine AWp.seq ?_
      refine W.reg [0, 1] rfl ?_
      obtain ⟨k5, m5, h2⟩ := h2.bnd
      refine S.sil 8 rfl rfl (fun _ hF => .ixV arr32 (lk 2 rfl rfl) (lk 1 rfl rfl) m5 rfl) ?_
      refine S.sil 4 rfl rfl (fun _ hF => .assign (lk 0 rfl rfl)) ?_
      refine S.nil ?_
      refine thenQ_n ?_
      refine AWp.seq ?_
      refine W.reg [0, 1, 2, 3, 4, 5, 6] rfl ?_
      refine S.sil 9 rfl rfl (fun _ hF => .move (lk 0 rfl rfl)) ?_
      refine S.sil 10 rfl rfl (fun _ hF => .lss (lk 0 rfl rfl) cI) ?_
      refine S.sil 11 rfl rfl (fun _ hF => .move (lk 0 rfl rfl)) ?_
      refine S.gsil 12 2 11 false rfl rfl rfl (lk 0 rfl rfl) (fun hB _ hF => .move (lk 3 rfl rfl)) ?_
      obtain ⟨r6, m6, h2⟩ := h2.bnd
      refine S.gsil 13 2 11 false rfl rfl rfl (lk 1 rfl rfl) (fun hB _ hF => .callQ ent77 cF (.c (ifT hB (lk 0 rfl rfl)) (V.sub.refl _) .nil) (C_num_Is (gd_get m6 hB))) ?_
      refine S.gsil 14 2 11 false rfl rfl rfl (lk 2 rfl rfl) (fun hB _ hF => .not (ifT hB (lk 0 rfl rfl))) ?_
      refine S.sil 15 rfl rfl (fun _ hF => .pickOr (lk 3 rfl rfl) cB (fun h => ifT h (lk 0 rfl rfl))) ?_
      refine S.nil ?_
      refine thenQ_n ?_
      refine AWp.condM (lk 0 rfl rfl) h2 (fun c2 h2 => ?_) (fun c2 h2 => ?_)
      · skip
        refine AWp.seq ?_
        refine W.reg [0] rfl ?_
        refine S.sil 2 rfl rfl (fun _ hF => .assign cB) ?_
        refine S.nil ?_
        refine thenQ_n ?_
        refine AWp.ret ?_
        refine blockQ_r ?_
        refine thenQ_r ?_
        refine thenQ_r ?_
        refine blockQ_r ?_
        refine thenQ_r ?_
        refine thenQ_r ?_
        have h := Ok.inrq h h2.ret
        obtain rfl := h.ret
        exact endF1 rfl (Wk.selS [] .nil rfl (SelE.leaf (lk 0 rfl rfl) rfl (.refl _) (fun m => (TyOk.bool.lt _ _)) .nil) .nil) (.tmp (lk 0 rfl rfl) rfl) rfl rfl
      · skip
        refine AWp.skip ?_
        refine blockQ_n ?_
        refine thenQ_n ?_
        refine W.reg [0, 1] rfl ?_
        refine S.sil 16 rfl rfl (fun _ hF => .add (lk 10 rfl rfl) cI) ?_
        refine S.sil 6 rfl rfl (fun _ hF => .move (lk 0 rfl rfl)) ?_
        refine S.nil ?_
        refine thenQ_n ?_
        exact ⟨_, h2.ret, (Wk.selS [] (by decide) rfl (SelE.leaf (lk 0 rfl rfl) rfl (.refl _) (fun m => ((TyOk.int .i64).lt _ _)) (SelE.leaf (lk 13 rfl rfl) rfl (.refl _) (fun m => (ty_A16_i64.lt _ _)) (SelE.leaf (lk 14 rfl rfl) rfl (.refl _) (fun m => (TyOk.bool.lt _ _)) .nil))) .nil)⟩
    · skip
      refine AWp.exit ?_
      refine thenQ_x ?_
      refine thenQ_x ?_
      refine blockQ_x ?_
      refine thenQ_n ?_
      exact ⟨_, h2.ret, (Wk.selS [] (by decide) rfl (SelE.leaf (lk 3 rfl rfl) rfl (.refl _) (fun m => (TyOk.bool.lt _ _)) .nil) .nil)⟩
  · skip
    refine thenQ_n ?_
    refine AWp.seq ?_
    refine W.reg [0] rfl ?_
    refine S.sil 2 rfl rfl (fun _ hF => .assign cB) ?_
    refine S.nil ?_
    refine thenQ_n ?_
    refine AWp.ret ?_
    obtain rfl := h.ret
    exact endF1 rfl (Wk.selS [] .nil rfl (SelE.leaf (lk 0 rfl rfl) rfl (.refl _) (fun m => (TyOk.bool.lt _ _)) .nil) .nil) (.tmp (lk 0 rfl rfl) rfl) rfl rfl
theorem C_rights_Right {a1 : TRights} {r : Bool} (h : rights_Right a1 = some r) : PureC Pg 202 [E_TRights a1] (V.bool r) := by
  refine PureC.ofF (CallSpec.of_bodyF 31 0 fn202 rfl rfl rfl (Nat.le_of_ble_eq_true rfl) ?_) (ltL_c (ty_TRights.lt _ _) ltL_nil) (TyOk.bool.lt _ _)
  replace h := Ok.of h
  unfold rights_Right at h
  refine AWp.seq ?_
  refine W.reg [0, 1] rfl ?_
  refine S.eff 1 rfl rfl (.nf (v2 := .ptr 0 [] 0) (H2 := [.cells (E_TRights a1)]) (.box (lk 0 rfl rfl) rfl) rfl rfl) trivial ?_
  refine S.sil 2 rfl rfl (fun _ hF => .assign cB) ?_
  refine S.nil ?_
  refine thenQ_n ?_
  refine AWp.wk (Wk.freeze 0 rfl rfl (.same (lk 0 rfl rfl) (.cons (lk 1 rfl rfl) rfl (.ptr .nil (by first | rfl | omega)) .nil)) (.refl _)) ?_
  refine AWp.seq ?_
  refine AWp.seq ?_
  refine W.reg [0, 1, 2, 3, 4, 5, 6, 7, 8, 9] rfl ?_
  refine S.sil 5 rfl rfl (fun _ hF => .fieldAddrC lay35 rfl rfl (lk 1 rfl rfl) rfl flL_nil) ?_
  refine S.sil 6 rfl rfl (fun _ hF => .loadC sz32 ag32 (lk 0 rfl rfl) (ty_A16_i64.fl a1.Given) rfl) ?_
  obtain ⟨r2, m2, h⟩ := h.bnd
  refine S.sil 7 rfl rfl (fun _ hF => .callQ ent230 cF (.c (lk 0 rfl rfl) (V.sub.refl _) .nil) (C_vec_Right m2)) ?_
  refine S.sil 8 rfl rfl (fun _ hF => .not (lk 0 rfl rfl)) ?_
  refine S.sil 9 rfl rfl (fun _ hF => .move (lk 0 rfl rfl)) ?_
  refine S.gsil 10 4 9 false rfl rfl rfl (lk 0 rfl rfl) (fun hB _ hF => .fieldAddrC lay35 rfl rfl (lk 6 rfl rfl) rfl (flL_c (ty_A16_i64.fl a1.Given) flL_nil)) ?_
  refine S.gsil 11 4 9 false rfl rfl rfl (lk 1 rfl rfl) (fun hB _ hF => .loadC sz32 ag32 (ifT hB (lk 0 rfl rfl)) (ty_A16_i64.fl a1.Used) rfl) ?_
  obtain ⟨r3, m3, h⟩ := h.bnd
  refine S.gsil 12 4 9 false rfl rfl rfl (lk 2 rfl rfl) (fun hB _ hF => .callQ ent230 cF (.c (ifT hB (lk 0 rfl rfl)) (V.sub.refl _) .nil) (C_vec_Right (gd_get m3 hB))) ?_
  refine S.gsil 13 4 9 false rfl rfl rfl (lk 3 rfl rfl) (fun hB _ hF => .not (ifT hB (lk 0 rfl rfl))) ?_
  refine S.sil 14 rfl rfl (fun _ hF => .pickOr (lk 4 rfl rfl) cB (fun h => ifT h (lk 0 rfl rfl))) ?_
  refine S.nil ?_
  refine thenQ_n ?_
  refine AWp.condM (lk 0 rfl rfl) h (fun c1 h => ?_) (fun c1 h => ?_)
  · skip
    refine AWp.seq ?_
    refine W.reg [0] rfl ?_
    refine S.sil 2 rfl rfl (fun _ hF => .assign cB) ?_
    refine S.nil ?_
    refine thenQ_n ?_
    refine AWp.prune (.eq (lk 0 rfl rfl) rfl (.eq (lk 12 rfl rfl) rfl .nil)) ?_
    refine AWp.ret ?_
    refine thenQ_r ?_
    obtain rfl := h.ret
    exact endF1 rfl (Wk.selS [] .nil rfl (SelE.leaf (lk 0 rfl rfl) rfl (.refl _) (fun m => (TyOk.bool.lt _ _)) .nil) .nil) (.tmp (lk 0 rfl rfl) rfl) rfl rfl
  · skip
    refine AWp.skip ?_
    refine thenQ_n ?_
    refine AWp.prune (.eq (lk 10 rfl rfl) rfl (.eq (lk 11 rfl rfl) rfl .nil)) ?_
    refine AWp.seq ?_
    refine AWp.seq ?_
    refine W.reg [0, 1, 2] rfl ?_
    refine S.sil 15 rfl rfl (fun _ hF => .fieldAddrC lay35 rfl rfl (lk 1 rfl rfl) rfl (flL_c (ty_A16_i64.fl a1.Given) (flL_c (ty_A16_i64.fl a1.Used) flL_nil))) ?_
    refine S.sil 16 rfl rfl (fun _ hF => .loadC sz33 ag33 (lk 0 rfl rfl) (ty_A16_A16_i64.fl a1.Moved) rfl) ?_
    refine S.sil 17 rfl rfl (fun _ hF => .move cI) ?_
    refine S.nil ?_
    refine thenQ_n ?_
    refine AWp.cutL (fun x6 => ⟨[(2, V.bool false)], []⟩) nc_then h (fun q4 hq4 h => ?_) (fun x6 h => ?_)
    · refine AWp.block ?_
      refine AWp.loopT (fun s5 => ⟨[(17, (V.int .i64) s5), (16, E_A16_A16_i64 a1.Moved), (2, V.bool false)], []⟩) hq4 (Wk.selS [] (by decide) rfl (SelE.leaf (lk 0 rfl rfl) rfl (.refl _) (fun m => ((TyOk.int .i64).lt _ _)) (SelE.leaf (lk 1 rfl rfl) rfl (.refl _) (fun m => (ty_A16_A16_i64.lt _ _)) (SelE.leaf (lk 3 rfl rfl) rfl (.refl _) (fun m => (TyOk.bool.lt _ _)) .nil))) .nil) (fun _ s5 h4 => ?_)
      rw [rights_Right_L1] at h4
      refine AWp.seq ?_
      refine W.reg [0] rfl ?_
      refine S.sil 18 rfl rfl (fun _ hF => .lss (lk 0 rfl rfl) cI) ?_
      refine S.nil ?_
      refine thenQ_n ?_
      refine AWp.seq ?_
      refine AWp.condM (lk 0 rfl rfl) h4 (fun c2 h4 => ?_) (fun c2 h4 => ?_)
      · skip
        refine AWp.skip ?_
        refine thenQ_n ?_
        refine AWp.seq ?_
        refine AWp.block ?_
        refine AWp.seq ?_
        refine W.reg [0, 1, 2, 3, 4] rfl ?_
        refine S.sil 19 rfl rfl (fun _ hF => .move (lk 1 rfl rfl)) ?_
        obtain ⟨k7, m7, h4⟩ := h4.bnd
        refine S.sil 20 rfl rfl (fun _ hF => .ixV arr33 (lk 3 rfl rfl) (lk 2 rfl rfl) m7 rfl) ?_
        refine S.eff 4 rfl rfl (.nf (v2 := .ptr 0 [] 0) (H2 := [.cells (E_A16_i64 (default : Vector Int 16))]) (.alloc zv32) rfl rfl) trivial ?_
        refine S.sil 3 rfl rfl (fun _ hF => .assign (lk 2 rfl rfl)) ?_
        obtain ⟨v8, ev8, h4⟩ := h4.nam
        refine S.effN rfl rfl (.nf (H2 := [.cells (E_A16_i64 v8)]) (.storeP sz32 (lk 1 rfl rfl) (lk 2 rfl rfl) rfl (.refl _) rfl .nil (by first | rfl | omega) .nil (ty_A16_i64.fl (a1.Moved.get k7)) (ty_A16_i64.fl (default : Vector Int 16)) (congrArg (fun z => ([AObj.cells (E_A16_i64 z)] : List AObj)) ev8.symm)) rfl rfl) trivial ?_
        refine S.nil ?_
        refine thenQ_n ?_
        refine AWp.wk (Wk.freeze 0 rfl rfl (.same (lk 0 rfl rfl) (.cons (lk 1 rfl rfl) rfl (.ptr .nil (by first | rfl | omega)) (.same (lk 2 rfl rfl) (.same (lk 3 rfl rfl) (.same (lk 4 rfl rfl) (.same (lk 5 rfl rfl) (.same (lk 6 rfl rfl) (.same (lk 7 rfl rfl) .nil)))))))) (.refl _)) ?_
        refine AWp.seq ?_
        refine W.reg [0, 1, 2, 3, 4, 5, 6, 7, 8] rfl ?_
        refine S.sil 21 rfl rfl (fun _ hF => .loadC sz32 ag32 (lk 1 rfl rfl) (ty_A16_i64.fl v8) rfl) ?_
        obtain ⟨r9, m9, h4⟩ := h4.bnd
        refine S.sil 22 rfl rfl (fun _ hF => .callQ ent230 cF (.c (lk 0 rfl rfl) (V.sub.refl _) .nil) (C_vec_Right m9)) ?_
        refine S.sil 23 rfl rfl (fun _ hF => .not (lk 0 rfl rfl)) ?_
        refine S.sil 24 rfl rfl (fun _ hF => .move (lk 0 rfl rfl)) ?_
        refine S.gsil 25 3 24 false rfl rfl rfl (lk 0 rfl rfl) (fun hB _ hF => .move (lk 4 rfl rfl)) ?_
        obtain ⟨k10, m10, h4⟩ := h4.bnd
        refine S.gsil 26 3 24 false rfl rfl rfl (lk 1 rfl rfl) (fun hB _ hF => .ixC arr32 (lk 6 rfl rfl) (ifT hB (lk 0 rfl rfl)) (gd_get m10 hB)) ?_
        refine S.gsil 27 3 24 false rfl rfl rfl (lk 2 rfl rfl) (fun hB _ hF => .loadC sz3 ag3 (ifT hB (lk 0 rfl rfl)) rfl rfl) ?_
        refine S.gsil 28 3 24 false rfl rfl rfl (lk 3 rfl rfl) (fun hB _ hF => .neq (ifT hB (lk 0 rfl rfl)) cI) ?_
        refine S.sil 29 rfl rfl (fun _ hF => .pickOr (lk 4 rfl rfl) cB (fun h => ifT h (lk 0 rfl rfl))) ?_
        refine S.nil ?_
        refine thenQ_n ?_
        refine AWp.condM (lk 0 rfl rfl) h4 (fun c3 h4 => ?_) (fun c3 h4 => ?_)
        · skip
          refine AWp.seq ?_
          refine W.reg [0] rfl ?_
          refine S.sil 2 rfl rfl (fun _ hF => .assign cB) ?_
          refine S.nil ?_
          refine thenQ_n ?_
          refine AWp.ret ?_
          refine blockQ_r ?_
          refine thenQ_r ?_
          refine thenQ_r ?_
          refine blockQ_r ?_
          refine thenQ_r ?_
          refine thenQ_r ?_
          have h := Ok.inrq h h4.ret
          obtain rfl := h.ret
          exact endF1 rfl (Wk.selS [] .nil rfl (SelE.leaf (lk 0 rfl rfl) rfl (.refl _) (fun m => (TyOk.bool.lt _ _)) .nil) .nil) (.tmp (lk 0 rfl rfl) rfl) rfl rfl
        · skip
          refine AWp.skip ?_
          refine blockQ_n ?_
          refine thenQ_n ?_
          refine W.reg [0, 1] rfl ?_
          refine S.sil 30 rfl rfl (fun _ hF => .add (lk 14 rfl rfl) cI) ?_
          refine S.sil 17 rfl rfl (fun _ hF => .move (lk 0 rfl rfl)) ?_
          refine S.nil ?_
          refine thenQ_n ?_
          exact ⟨_, h4.ret, (Wk.selS [] (by decide) rfl (SelE.leaf (lk 0 rfl rfl) rfl (.refl _) (fun m => ((TyOk.int .i64).lt _ _)) (SelE.leaf (lk 17 rfl rfl) rfl (.refl _) (fun m => (ty_A16_A16_i64.lt _ _)) (SelE.leaf (lk 18 rfl rfl) rfl (.refl _) (fun m => (TyOk.bool.lt _ _)) .nil))) .nil)⟩
      · skip
        refine AWp.exit ?_
        refine thenQ_x ?_
        refine thenQ_x ?_
        refine blockQ_x ?_
        refine thenQ_n ?_
        exact ⟨_, h4.ret, (Wk.selS [] (by decide) rfl (SelE.leaf (lk 3 rfl rfl) rfl (.refl _) (fun m => (TyOk.bool.lt _ _)) .nil) .nil)⟩
    · skip
      refine thenQ_n ?_
      refine AWp.seq ?_
      refine W.reg [0] rfl ?_
      refine S.sil 2 rfl rfl (fun _ hF => .assign cB) ?_
      refine S.nil ?_
      refine thenQ_n ?_
      refine AWp.ret ?_
      obtain rfl := h.ret
      exact endF1 rfl (Wk.selS [] .nil rfl (SelE.leaf (lk 0 rfl rfl) rfl (.refl _) (fun m => (TyOk.bool.lt _ _)) .nil) .nil) (.tmp (lk 0 rfl rfl) rfl) rfl rfl
theorem C_vec_Sum {a1 : Vector Int 16} {r : Int × Int} (h : vec_Sum a1 = some r) : PureC Pg 231 [E_A16_i64 a1] (.tup [(V.int .i64) r.1, (V.int .i64) r.2]) := by
  refine PureC.ofF (CallSpec.of_bodyF 8 0 fn231 rfl rfl rfl (Nat.le_of_ble_eq_true rfl) ?_) (ltL_c (ty_A16_i64.lt _ _) ltL_nil) (lt_tup (ltL_c ((TyOk.int .i64).lt _ _) (ltL_c ((TyOk.int .i64).lt _ _) ltL_nil)))
  replace h := Ok.of h
  unfold vec_Sum at h
  refine AWp.seq ?_
  refine W.reg [0, 1, 2] rfl ?_
  refine S.eff 1 rfl rfl (.nf (v2 := .ptr 0 [] 0) (H2 := [.cells (E_A16_i64 a1)]) (.box (lk 0 rfl rfl) rfl) rfl rfl) trivial ?_
  refine S.sil 2 rfl rfl (fun _ hF => .assign cI) ?_
  refine S.sil 3 rfl rfl (fun _ hF => .assign cI) ?_
  refine S.nil ?_
  refine thenQ_n ?_
  refine AWp.wk (Wk.freeze 0 rfl rfl (.same (lk 0 rfl rfl) (.same (lk 1 rfl rfl) (.cons (lk 2 rfl rfl) rfl (.ptr .nil (by first | rfl | omega)) .nil))) (.refl _)) ?_
  refine AWp.seq ?_
  refine W.reg [0, 1, 2, 3, 4, 5] rfl ?_
  refine S.sil 4 rfl rfl (fun _ hF => .sliceArr arr32 (lk 2 rfl rfl) (by simp)) ?_
  obtain ⟨r2, m2, h⟩ := h.bnd
  refine S.sil 5 rfl rfl (fun _ hF => .callQ ent123 cF (.c (lk 0 rfl rfl) (vsub rfl (.forget _ _ _)) .nil) (C_num_Sum m2)) ?_
  refine S.sil 6 rfl rfl (fun _ hF => .extract (lk 0 rfl rfl) rfl) ?_
  refine S.sil 7 rfl rfl (fun _ hF => .extract (lk 1 rfl rfl) rfl) ?_
  refine S.sil 2 rfl rfl (fun _ hF => .assign (lk 1 rfl rfl)) ?_
  refine S.sil 3 rfl rfl (fun _ hF => .assign (lk 1 rfl rfl)) ?_
  refine S.nil ?_
  refine thenQ_n ?_
  refine AWp.ret ?_
  obtain rfl := h.ret
  exact endFN rfl (Wk.selS [] .nil rfl (SelE.leaf (lk 1 rfl rfl) rfl (.refl _) (fun m => ((TyOk.int .i64).lt _ _)) (SelE.leaf (lk 0 rfl rfl) rfl (.refl _) (fun m => ((TyOk.int .i64).lt _ _)) .nil)) .nil) (.cons (.tmp (lk 0 rfl rfl) rfl) (.cons (.tmp (lk 1 rfl rfl) rfl) .nil)) rfl rfl rfl
theorem C_counter_given {a1 : TRights} {a2 : TRights} {a3 : Int} {r : Bool} (h : counter_given a1 a2 a3 = some r) : PureC Pg 203 [E_TRights a1, E_TRights a2, (V.int .i64) a3] (V.bool r) := by
  refine PureC.ofF (CallSpec.of_bodyF 46 0 fn203 rfl rfl rfl (Nat.le_of_ble_eq_true rfl) ?_) (ltL_c (ty_TRights.lt _ _) (ltL_c (ty_TRights.lt _ _) (ltL_c ((TyOk.int .i64).lt _ _) ltL_nil))) (TyOk.bool.lt _ _)
  replace h := Ok.of h
  unfold counter_given at h
  refine AWp.seq ?_
  refine W.reg [0, 1, 2] rfl ?_
  refine S.eff 3 rfl rfl (.nf (v2 := .ptr 0 [] 0) (H2 := [.cells (E_TRights a1)]) (.box (lk 0 rfl rfl) rfl) rfl rfl) trivial ?_
  refine S.eff 4 rfl rfl (.nf (v2 := .ptr 1 [] 0) (H2 := [.cells (E_TRights a1), .cells (E_TRights a2)]) (.box (lk 2 rfl rfl) rfl) rfl rfl) trivial ?_
  refine S.sil 6 rfl rfl (fun _ hF => .assign cB) ?_
  refine S.nil ?_
  refine thenQ_n ?_
  refine AWp.wk (Wk.freeze 0 rfl rfl (.same (lk 0 rfl rfl) (.same (lk 1 rfl rfl) (.cons (lk 2 rfl rfl) rfl (.ptr .nil (by first | rfl | omega)) (.same (lk 5 rfl rfl) .nil)))) (.refl _)) ?_
  refine AWp.wk (Wk.freeze 1 rfl rfl (.same (lk 0 rfl rfl) (.cons (lk 1 rfl rfl) rfl (.ptr .nil (by first | rfl | omega)) (.same (lk 2 rfl rfl) (.same (lk 3 rfl rfl) .nil)))) (.refl _)) ?_
  refine AWp.seq ?_
  refine W.reg [0, 1, 2, 3, 4, 5, 6, 7] rfl ?_
  refine S.sil 14 rfl rfl (fun _ hF => .fieldAddrC lay35 rfl rfl (lk 2 rfl rfl) rfl flL_nil) ?_
  refine S.sil 15 rfl rfl (fun _ hF => .loadC sz32 ag32 (lk 0 rfl rfl) (ty_A16_i64.fl a1.Given) rfl) ?_
  obtain ⟨r4, m4, h⟩ := h.bnd
  refine S.sil 16 rfl rfl (fun _ hF => .callQ ent231 cF (.c (lk 0 rfl rfl) (V.sub.refl _) .nil) (C_vec_Sum m4)) ?_
  refine S.sil 13 rfl rfl (fun _ hF => .move (lk 0 rfl rfl)) ?_
  refine S.sil 17 rfl rfl (fun _ hF => .extract (lk 0 rfl rfl) rfl) ?_
  refine S.sil 18 rfl rfl (fun _ hF => .extract (lk 1 rfl rfl) rfl) ?_
  refine S.sil 7 rfl rfl (fun _ hF => .assign (lk 1 rfl rfl)) ?_
  refine S.sil 8 rfl rfl (fun _ hF => .assign (lk 1 rfl rfl)) ?_
  refine S.nil ?_
  refine thenQ_n ?_
  refine AWp.seq ?_
  refine W.reg [0, 1, 2, 3, 4, 5, 6, 7] rfl ?_
  refine S.sil 20 rfl rfl (fun _ hF => .fieldAddrC lay35 rfl rfl (lk 9 rfl rfl) rfl (flL_c (ty_A16_i64.fl a2.Given) flL_nil)) ?_
  refine S.sil 21 rfl rfl (fun _ hF => .loadC sz32 ag32 (lk 0 rfl rfl) (ty_A16_i64.fl a2.Used) rfl) ?_
  obtain ⟨r5, m5, h⟩ := h.bnd
  refine S.sil 22 rfl rfl (fun _ hF => .callQ ent231 cF (.c (lk 0 rfl rfl) (V.sub.refl _) .nil) (C_vec_Sum m5)) ?_
  refine S.sil 19 rfl rfl (fun _ hF => .move (lk 0 rfl rfl)) ?_
  refine S.sil 23 rfl rfl (fun _ hF => .extract (lk 0 rfl rfl) rfl) ?_
  refine S.sil 24 rfl rfl (fun _ hF => .extract (lk 1 rfl rfl) rfl) ?_
  refine S.sil 9 rfl rfl (fun _ hF => .assign (lk 1 rfl rfl)) ?_
  refine S.sil 10 rfl rfl (fun _ hF => .assign (lk 1 rfl rfl)) ?_
  refine S.nil ?_
  refine thenQ_n ?_
  refine AWp.prune (.eq (lk 0 rfl rfl) rfl (.eq (lk 1 rfl rfl) rfl (.eq (lk 8 rfl rfl) rfl (.eq (lk 9 rfl rfl) rfl (.eq (lk 16 rfl rfl) rfl (.eq (lk 19 rfl rfl) rfl .nil)))))) ?_
  refine AWp.seq ?_
  refine W.reg [0, 1, 2, 3, 4, 5, 6, 7] rfl ?_
  refine S.sil 26 rfl rfl (fun _ hF => .move (lk 5 rfl rfl)) ?_
  refine S.sil 27 rfl rfl (fun _ hF => .move (lk 2 rfl rfl)) ?_
  obtain ⟨r6, m6, h⟩ := h.bnd
  refine S.sil 28 rfl rfl (fun _ hF => .callQ ent164 cF (.c (lk 1 rfl rfl) (V.sub.refl _) (.c (lk 0 rfl rfl) (V.sub.refl _) .nil)) (C_num_Add m6)) ?_
  refine S.sil 25 rfl rfl (fun _ hF => .move (lk 0 rfl rfl)) ?_
  refine S.sil 29 rfl rfl (fun _ hF => .extract (lk 0 rfl rfl) rfl) ?_
  refine S.sil 30 rfl rfl (fun _ hF => .extract (lk 1 rfl rfl) rfl) ?_
  refine S.sil 11 rfl rfl (fun _ hF => .assign (lk 1 rfl rfl)) ?_
  refine S.sil 12 rfl rfl (fun _ hF => .assign (lk 1 rfl rfl)) ?_
  refine S.nil ?_
  refine thenQ_n ?_
  refine AWp.seq ?_
  refine W.reg [0, 1, 2, 3, 4, 5, 6, 7, 8, 9, 10, 11, 12, 13, 14, 15] rfl ?_
  refine S.sil 31 rfl rfl (fun _ hF => .move (lk 10 rfl rfl)) ?_
  refine S.sil 32 rfl rfl (fun _ hF => .eql (lk 0 rfl rfl) cI) ?_
  refine S.sil 33 rfl rfl (fun _ hF => .move (lk 0 rfl rfl)) ?_
  refine S.gsil 34 2 33 true rfl rfl rfl (lk 0 rfl rfl) (fun hB _ hF => .move (lk 11 rfl rfl)) ?_
  refine S.gsil 35 2 33 true rfl rfl rfl (lk 1 rfl rfl) (fun hB _ hF => .eql (ifT hB (lk 0 rfl rfl)) cI) ?_
  refine S.sil 36 rfl rfl (fun _ hF => .pickAnd (lk 2 rfl rfl) (fun h => ifT h (lk 0 rfl rfl)) cB) ?_
  refine S.sil 37 rfl rfl (fun _ hF => .move (lk 0 rfl rfl)) ?_
  refine S.gsil 38 6 37 true rfl rfl rfl (lk 0 rfl rfl) (fun hB _ hF => .move (lk 7 rfl rfl)) ?_
  refine S.gsil 39 6 37 true rfl rfl rfl (lk 1 rfl rfl) (fun hB _ hF => .eql (ifT hB (lk 0 rfl rfl)) cI) ?_
  refine S.sil 40 rfl rfl (fun _ hF => .pickAnd (lk 2 rfl rfl) (fun h => ifT h (lk 0 rfl rfl)) cB) ?_
  refine S.sil 41 rfl rfl (fun _ hF => .move (lk 0 rfl rfl)) ?_
  refine S.gsil 42 10 41 true rfl rfl rfl (lk 0 rfl rfl) (fun hB _ hF => .move (lk 22 rfl rfl)) ?_
  refine S.gsil 43 10 41 true rfl rfl rfl (lk 1 rfl rfl) (fun hB _ hF => .move (lk 13 rfl rfl)) ?_
  refine S.gsil 44 10 41 true rfl rfl rfl (lk 2 rfl rfl) (fun hB _ hF => .eql (ifT hB (lk 1 rfl rfl)) (ifT hB (lk 0 rfl rfl))) ?_
  obtain ⟨v7, ev7, h⟩ := h.nam
  refine S.sil 45 rfl rfl (fun _ hF => .nv (.pickAnd (lk 3 rfl rfl) (fun h => ifT h (lk 0 rfl rfl)) cB) (congrArg V.bool ev7.symm)) ?_
  refine S.sil 6 rfl rfl (fun _ hF => .assign (lk 0 rfl rfl)) ?_
  refine S.nil ?_
  refine thenQ_n ?_
  refine AWp.prune (.eq (lk 0 rfl rfl) rfl .nil) ?_
  refine AWp.ret ?_
  obtain rfl := h.ret
  exact endF1 rfl (Wk.selS [] .nil rfl (SelE.leaf (lk 0 rfl rfl) rfl (.refl _) (fun m => (TyOk.bool.lt _ _)) .nil) .nil) (.tmp (lk 0 rfl rfl) rfl) rfl rfl
theorem C_counter_Right {a1 : TCounter} {r : Bool} (h : counter_Right a1 = some r) : PureC Pg 143 [E_TCounter a1] (V.bool r) := by
  refine PureC.ofF (CallSpec.of_bodyF 65 0 fn143 rfl rfl rfl (Nat.le_of_ble_eq_true rfl) ?_) (ltL_c (ty_TCounter.lt _ _) ltL_nil) (TyOk.bool.lt _ _)
  replace h := Ok.of h
  unfold counter_Right at h
  refine AWp.seq ?_
  refine W.reg [0, 1] rfl ?_
  refine S.eff 1 rfl rfl (.nf (v2 := .ptr 0 [] 0) (H2 := [.cells (E_TCounter a1)]) (.box (lk 0 rfl rfl) rfl) rfl rfl) trivial ?_
  refine S.sil 2 rfl rfl (fun _ hF => .assign cB) ?_
  refine S.nil ?_
  refine thenQ_n ?_
  refine AWp.wk (Wk.freeze 0 rfl rfl (.same (lk 0 rfl rfl) (.cons (lk 1 rfl rfl) rfl (.ptr .nil (by first | rfl | omega)) .nil)) (.refl _)) ?_
  refine AWp.seq ?_
  refine AWp.seq ?_
  refine W.reg [0, 1, 2, 3, 4, 5, 6, 7, 8, 9, 10, 11, 12, 13, 14, 15, 16, 17, 18, 19, 20, 21, 22, 23, 24, 25, 26, 27, 28, 29] rfl ?_
  refine S.sil 3 rfl rfl (fun _ hF => .fieldAddrC lay37 rfl rfl (lk 1 rfl rfl) rfl flL_nil) ?_
  refine S.sil 4 rfl rfl (fun _ hF => .loadC sz3 ag3 (lk 0 rfl rfl) rfl rfl) ?_
  obtain ⟨r2, m2, h⟩ := h.bnd
  refine S.sil 5 rfl rfl (fun _ hF => .callQ ent77 cF (.c (lk 0 rfl rfl) (V.sub.refl _) .nil) (C_num_Is m2)) ?_
  refine S.sil 6 rfl rfl (fun _ hF => .not (lk 0 rfl rfl)) ?_
  refine S.sil 7 rfl rfl (fun _ hF => .move (lk 0 rfl rfl)) ?_
  refine S.gsil 8 4 7 false rfl rfl rfl (lk 0 rfl rfl) (fun hB _ hF => .fieldAddrC lay37 rfl rfl (lk 6 rfl rfl) rfl (flL_c (show flen _ = 1 from rfl) flL_nil)) ?_
  refine S.gsil 9 4 7 false rfl rfl rfl (lk 1 rfl rfl) (fun hB _ hF => .loadC sz3 ag3 (ifT hB (lk 0 rfl rfl)) rfl rfl) ?_
  obtain ⟨r3, m3, h⟩ := h.bnd
  refine S.gsil 10 4 7 false rfl rfl rfl (lk 2 rfl rfl) (fun hB _ hF => .callQ ent77 cF (.c (ifT hB (lk 0 rfl rfl)) (V.sub.refl _) .nil) (C_num_Is (gd_get m3 hB))) ?_
  refine S.gsil 11 4 7 false rfl rfl rfl (lk 3 rfl rfl) (fun hB _ hF => .not (ifT hB (lk 0 rfl rfl))) ?_
  refine S.sil 12 rfl rfl (fun _ hF => .pickOr (lk 4 rfl rfl) cB (fun h => ifT h (lk 0 rfl rfl))) ?_
  refine S.sil 13 rfl rfl (fun _ hF => .move (lk 0 rfl rfl)) ?_
  refine S.gsil 14 10 13 false rfl rfl rfl (lk 0 rfl rfl) (fun hB _ hF => .fieldAddrC lay37 rfl rfl (lk 12 rfl rfl) rfl (flL_c (show flen _ = 1 from rfl) (flL_c (show flen _ = 1 from rfl) flL_nil))) ?_
  refine S.gsil 15 10 13 false rfl rfl rfl (lk 1 rfl rfl) (fun hB _ hF => .loadC sz3 ag3 (ifT hB (lk 0 rfl rfl)) rfl rfl) ?_
  obtain ⟨r4, m4, h⟩ := h.bnd
  refine S.gsil 16 10 13 false rfl rfl rfl (lk 2 rfl rfl) (fun hB _ hF => .callQ ent77 cF (.c (ifT hB (lk 0 rfl rfl)) (V.sub.refl _) .nil) (C_num_Is (gd_get m4 hB))) ?_
  refine S.gsil 17 10 13 false rfl rfl rfl (lk 3 rfl rfl) (fun hB _ hF => .not (ifT hB (lk 0 rfl rfl))) ?_
  refine S.sil 18 rfl rfl (fun _ hF => .pickOr (lk 4 rfl rfl) cB (fun h => ifT h (lk 0 rfl rfl))) ?_
  refine S.sil 19 rfl rfl (fun _ hF => .move (lk 0 rfl rfl)) ?_
  refine S.gsil 20 16 19 false rfl rfl rfl (lk 0 rfl rfl) (fun hB _ hF => .fieldAddrC lay37 rfl rfl (lk 18 rfl rfl) rfl (flL_c (show flen _ = 1 from rfl) flL_nil)) ?_
  refine S.gsil 21 16 19 false rfl rfl rfl (lk 1 rfl rfl) (fun hB _ hF => .loadC sz3 ag3 (ifT hB (lk 0 rfl rfl)) rfl rfl) ?_
  refine S.gsil 22 16 19 false rfl rfl rfl (lk 2 rfl rfl) (fun hB _ hF => .fieldAddrC lay37 rfl rfl (lk 20 rfl rfl) rfl flL_nil) ?_
  refine S.gsil 23 16 19 false rfl rfl rfl (lk 3 rfl rfl) (fun hB _ hF => .loadC sz3 ag3 (ifT hB (lk 0 rfl rfl)) rfl rfl) ?_
  refine S.gsil 24 16 19 false rfl rfl rfl (lk 4 rfl rfl) (fun hB _ hF => .gtr (ifT hB (lk 2 rfl rfl)) (ifT hB (lk 0 rfl rfl))) ?_
  refine S.sil 25 rfl rfl (fun _ hF => .pickOr (lk 5 rfl rfl) cB (fun h => ifT h (lk 0 rfl rfl))) ?_
  refine S.sil 26 rfl rfl (fun _ hF => .move (lk 0 rfl rfl)) ?_
  refine S.gsil 27 23 26 false rfl rfl rfl (lk 0 rfl rfl) (fun hB _ hF => .fieldAddrC lay37 rfl rfl (lk 25 rfl rfl) rfl flL_nil) ?_
  refine S.gsil 28 23 26 false rfl rfl rfl (lk 1 rfl rfl) (fun hB _ hF => .loadC sz3 ag3 (ifT hB (lk 0 rfl rfl)) rfl rfl) ?_
  refine S.gsil 29 23 26 false rfl rfl rfl (lk 2 rfl rfl) (fun hB _ hF => .fieldAddrC lay37 rfl rfl (lk 27 rfl rfl) rfl (flL_c (show flen _ = 1 from rfl) (flL_c (show flen _ = 1 from rfl) flL_nil))) ?_
  refine S.gsil 30 23 26 false rfl rfl rfl (lk 3 rfl rfl) (fun hB _ hF => .loadC sz3 ag3 (ifT hB (lk 0 rfl rfl)) rfl rfl) ?_
  refine S.gsil 31 23 26 false rfl rfl rfl (lk 4 rfl rfl) (fun hB _ hF => .gtr (ifT hB (lk 2 rfl rfl)) (ifT hB (lk 0 rfl rfl))) ?_
  obtain ⟨v5, ev5, h⟩ := h.nam
  refine S.sil 32 rfl rfl (fun _ hF => .nv (.pickOr (lk 5 rfl rfl) cB (fun h => ifT h (lk 0 rfl rfl))) (congrArg V.bool ev5.symm)) ?_
  refine S.nil ?_
  refine thenQ_n ?_
  refine AWp.prune (.eq (lk 0 rfl rfl) rfl (.eq (lk 30 rfl rfl) rfl (.eq (lk 31 rfl rfl) rfl .nil))) ?_
  refine AWp.condM (lk 0 rfl rfl) h (fun c1 h => ?_) (fun c1 h => ?_)
  · skip
    refine AWp.seq ?_
    refine W.reg [0] rfl ?_
    refine S.sil 2 rfl rfl (fun _ hF => .assign cB) ?_
    refine S.nil ?_
    refine thenQ_n ?_
    refine AWp.ret ?_
    refine thenQ_r ?_
    obtain rfl := h.ret
    exact endF1 rfl (Wk.selS [] .nil rfl (SelE.leaf (lk 0 rfl rfl) rfl (.refl _) (fun m => (TyOk.bool.lt _ _)) .nil) .nil) (.tmp (lk 0 rfl rfl) rfl) rfl rfl
  · skip
    refine AWp.skip ?_
    refine thenQ_n ?_
    refine AWp.seq ?_
    refine W.reg [0, 1, 2, 3, 4, 5, 6, 7, 8, 9, 10, 11, 12, 13, 14, 15, 16, 17, 18, 19, 20, 21, 22, 23, 24, 25, 26, 27, 28, 29, 30, 31, 32] rfl ?_
    refine S.sil 33 rfl rfl (fun _ hF => .fieldAddrC lay37 rfl rfl (lk 2 rfl rfl) rfl (flL_c (show flen _ = 1 from rfl) (flL_c (show flen _ = 1 from rfl) (flL_c (show flen _ = 1 from rfl) flL_nil)))) ?_
    refine S.sil 34 rfl rfl (fun _ hF => .loadC sz35 ag35 (lk 0 rfl rfl) (ty_TRights.fl a1.Down) rfl) ?_
    obtain ⟨r6, m6, h⟩ := h.bnd
    refine S.sil 35 rfl rfl (fun _ hF => .callQ ent202 cF (.c (lk 0 rfl rfl) (V.sub.refl _) .nil) (C_rights_Right m6)) ?_
    refine S.sil 36 rfl rfl (fun _ hF => .move (lk 0 rfl rfl)) ?_
    refine S.gsil 37 3 36 true rfl rfl rfl (lk 0 rfl rfl) (fun hB _ hF => .fieldAddrC lay37 rfl rfl (lk 6 rfl rfl) rfl (flL_c (show flen _ = 1 from rfl) (flL_c (show flen _ = 1 from rfl) (flL_c (show flen _ = 1 from rfl) (flL_c (ty_TRights.fl a1.Down) flL_nil))))) ?_
    refine S.gsil 38 3 36 true rfl rfl rfl (lk 1 rfl rfl) (fun hB _ hF => .loadC sz35 ag35 (ifT hB (lk 0 rfl rfl)) (ty_TRights.fl a1.Up) rfl) ?_
    obtain ⟨r7, m7, h⟩ := h.bnd
    refine S.gsil 39 3 36 true rfl rfl rfl (lk 2 rfl rfl) (fun hB _ hF => .callQ ent202 cF (.c (ifT hB (lk 0 rfl rfl)) (V.sub.refl _) .nil) (C_rights_Right (gd_get m7 hB))) ?_
    refine S.sil 40 rfl rfl (fun _ hF => .pickAnd (lk 3 rfl rfl) (fun h => ifT h (lk 0 rfl rfl)) cB) ?_
    refine S.sil 41 rfl rfl (fun _ hF => .move (lk 0 rfl rfl)) ?_
    refine S.gsil 42 8 41 true rfl rfl rfl (lk 0 rfl rfl) (fun hB _ hF => .fieldAddrC lay37 rfl rfl (lk 11 rfl rfl) rfl (flL_c (show flen _ = 1 from rfl) (flL_c (show flen _ = 1 from rfl) (flL_c (show flen _ = 1 from rfl) flL_nil)))) ?_
    refine S.gsil 43 8 41 true rfl rfl rfl (lk 1 rfl rfl) (fun hB _ hF => .loadC sz35 ag35 (ifT hB (lk 0 rfl rfl)) (ty_TRights.fl a1.Down) rfl) ?_
    refine S.gsil 44 8 41 true rfl rfl rfl (lk 2 rfl rfl) (fun hB _ hF => .fieldAddrC lay37 rfl rfl (lk 13 rfl rfl) rfl (flL_c (show flen _ = 1 from rfl) (flL_c (show flen _ = 1 from rfl) (flL_c (show flen _ = 1 from rfl) (flL_c (ty_TRights.fl a1.Down) flL_nil))))) ?_
    refine S.gsil 45 8 41 true rfl rfl rfl (lk 3 rfl rfl) (fun hB _ hF => .loadC sz35 ag35 (ifT hB (lk 0 rfl rfl)) (ty_TRights.fl a1.Up) rfl) ?_
    refine S.gsil 46 8 41 true rfl rfl rfl (lk 4 rfl rfl) (fun hB _ hF => .fieldAddrC lay37 rfl rfl (lk 15 rfl rfl) rfl flL_nil) ?_
    refine S.gsil 47 8 41 true rfl rfl rfl (lk 5 rfl rfl) (fun hB _ hF => .loadC sz3 ag3 (ifT hB (lk 0 rfl rfl)) rfl rfl) ?_
    refine S.gsil 48 8 41 true rfl rfl rfl (lk 6 rfl rfl) (fun hB _ hF => .fieldAddrC lay37 rfl rfl (lk 17 rfl rfl) rfl (flL_c (show flen _ = 1 from rfl) flL_nil)) ?_
    refine S.gsil 49 8 41 true rfl rfl rfl (lk 7 rfl rfl) (fun hB _ hF => .loadC sz3 ag3 (ifT hB (lk 0 rfl rfl)) rfl rfl) ?_
    refine S.gsil 50 8 41 true rfl rfl rfl (lk 8 rfl rfl) (fun hB _ hF => .sub (ifT hB (lk 2 rfl rfl)) (ifT hB (lk 0 rfl rfl))) ?_
    obtain ⟨r8, m8, h⟩ := h.bnd
    refine S.gsil 51 8 41 true rfl rfl rfl (lk 9 rfl rfl) (fun hB _ hF => .callQ ent203 cF (.c (ifT hB (lk 7 rfl rfl)) (V.sub.refl _) (.c (ifT hB (lk 5 rfl rfl)) (V.sub.refl _) (.c (ifT hB (lk 0 rfl rfl)) (V.sub.refl _) .nil))) (C_counter_given (gd_get m8 hB))) ?_
    refine S.sil 52 rfl rfl (fun _ hF => .pickAnd (lk 10 rfl rfl) (fun h => ifT h (lk 0 rfl rfl)) cB) ?_
    refine S.sil 53 rfl rfl (fun _ hF => .move (lk 0 rfl rfl)) ?_
    refine S.gsil 54 20 53 true rfl rfl rfl (lk 0 rfl rfl) (fun hB _ hF => .fieldAddrC lay37 rfl rfl (lk 23 rfl rfl) rfl (flL_c (show flen _ = 1 from rfl) (flL_c (show flen _ = 1 from rfl) (flL_c (show flen _ = 1 from rfl) (flL_c (ty_TRights.fl a1.Down) flL_nil))))) ?_
    refine S.gsil 55 20 53 true rfl rfl rfl (lk 1 rfl rfl) (fun hB _ hF => .loadC sz35 ag35 (ifT hB (lk 0 rfl rfl)) (ty_TRights.fl a1.Up) rfl) ?_
    refine S.gsil 56 20 53 true rfl rfl rfl (lk 2 rfl rfl) (fun hB _ hF => .fieldAddrC lay37 rfl rfl (lk 25 rfl rfl) rfl (flL_c (show flen _ = 1 from rfl) (flL_c (show flen _ = 1 from rfl) (flL_c (show flen _ = 1 from rfl) flL_nil)))) ?_
    refine S.gsil 57 20 53 true rfl rfl rfl (lk 3 rfl rfl) (fun hB _ hF => .loadC sz35 ag35 (ifT hB (lk 0 rfl rfl)) (ty_TRights.fl a1.Down) rfl) ?_
    refine S.gsil 58 20 53 true rfl rfl rfl (lk 4 rfl rfl) (fun hB _ hF => .fieldAddrC lay37 rfl rfl (lk 27 rfl rfl) rfl (flL_c (show flen _ = 1 from rfl) (flL_c (show flen _ = 1 from rfl) flL_nil))) ?_
    refine S.gsil 59 20 53 true rfl rfl rfl (lk 5 rfl rfl) (fun hB _ hF => .loadC sz3 ag3 (ifT hB (lk 0 rfl rfl)) rfl rfl) ?_
    refine S.gsil 60 20 53 true rfl rfl rfl (lk 6 rfl rfl) (fun hB _ hF => .fieldAddrC lay37 rfl rfl (lk 29 rfl rfl) rfl flL_nil) ?_
    refine S.gsil 61 20 53 true rfl rfl rfl (lk 7 rfl rfl) (fun hB _ hF => .loadC sz3 ag3 (ifT hB (lk 0 rfl rfl)) rfl rfl) ?_
    refine S.gsil 62 20 53 true rfl rfl rfl (lk 8 rfl rfl) (fun hB _ hF => .sub (ifT hB (lk 2 rfl rfl)) (ifT hB (lk 0 rfl rfl))) ?_
    obtain ⟨r9, m9, h⟩ := h.bnd
    refine S.gsil 63 20 53 true rfl rfl rfl (lk 9 rfl rfl) (fun hB _ hF => .callQ ent203 cF (.c (ifT hB (lk 7 rfl rfl)) (V.sub.refl _) (.c (ifT hB (lk 5 rfl rfl)) (V.sub.refl _) (.c (ifT hB (lk 0 rfl rfl)) (V.sub.refl _) .nil))) (C_counter_given (gd_get m9 hB))) ?_
    refine S.sil 64 rfl rfl (fun _ hF => .pickAnd (lk 10 rfl rfl) (fun h => ifT h (lk 0 rfl rfl)) cB) ?_
    obtain ⟨v10, ev10, h⟩ := h.nam
    refine S.sil 2 rfl rfl (fun _ hF => .nv (.assign (lk 0 rfl rfl)) (congrArg V.bool ev10.symm)) ?_
    refine S.nil ?_
    refine thenQ_n ?_
    refine AWp.prune (.eq (lk 0 rfl rfl) rfl .nil) ?_
    refine AWp.ret ?_
    obtain rfl := h.ret
    exact endF1 rfl (Wk.selS [] .nil rfl (SelE.leaf (lk 0 rfl rfl) rfl (.refl _) (fun m => (TyOk.bool.lt _ _)) .nil) .nil) (.tmp (lk 0 rfl rfl) rfl) rfl rfl
theorem C_lock_Right_1 {a1 : Int} {r : Bool} (h : lock_Right_1 a1 = some r) : PureC Pg 204 [(V.int .i64) a1] (V.bool r) := by
  refine PureC.ofF (CallSpec.of_bodyF 9 0 fn204 rfl rfl rfl (Nat.le_of_ble_eq_true rfl) ?_) (ltL_c ((TyOk.int .i64).lt _ _) ltL_nil) (TyOk.bool.lt _ _)
  replace h := Ok.of h
  unfold lock_Right_1 at h
  refine AWp.seq ?_
  refine W.reg [0] rfl ?_
  refine S.sil 2 rfl rfl (fun _ hF => .assign cB) ?_
  refine S.nil ?_
  refine thenQ_n ?_
  refine AWp.seq ?_
  refine W.reg [0, 1, 2, 3, 4, 5, 6] rfl ?_
  refine S.sil 3 rfl rfl (fun _ hF => .move (lk 1 rfl rfl)) ?_
  refine S.sil 4 rfl rfl (fun _ hF => .geq (lk 0 rfl rfl) cI) ?_
  refine S.sil 5 rfl rfl (fun _ hF => .move (lk 0 rfl rfl)) ?_
  refine S.gsil 6 2 5 true rfl rfl rfl (lk 0 rfl rfl) (fun hB _ hF => .move (lk 4 rfl rfl)) ?_
  obtain ⟨r2, m2, h⟩ := h.bnd
  refine S.gsil 7 2 5 true rfl rfl rfl (lk 1 rfl rfl) (fun hB _ hF => .callQ ent77 cF (.c (ifT hB (lk 0 rfl rfl)) (V.sub.refl _) .nil) (C_num_Is (gd_get m2 hB))) ?_
  refine S.sil 8 rfl rfl (fun _ hF => .pickAnd (lk 2 rfl rfl) (fun h => ifT h (lk 0 rfl rfl)) cB) ?_
  obtain ⟨v3, ev3, h⟩ := h.nam
  refine S.sil 2 rfl rfl (fun _ hF => .nv (.assign (lk 0 rfl rfl)) (congrArg V.bool ev3.symm)) ?_
  refine S.nil ?_
  refine thenQ_n ?_
  refine AWp.ret ?_
  obtain rfl := h.ret
  exact endF1 rfl (Wk.selS [] .nil rfl (SelE.leaf (lk 0 rfl rfl) rfl (.refl _) (fun m => (TyOk.bool.lt _ _)) .nil) .nil) (.tmp (lk 0 rfl rfl) rfl) rfl rfl
theorem C_lock_is {a1 : Int} {r : Bool} (h : lock_is a1 = some r) : PureC Pg 165 [(V.int .i64) a1] (V.bool r) := by
  refine PureC.ofF (CallSpec.of_bodyF 9 0 fn165 rfl rfl rfl (Nat.le_of_ble_eq_true rfl) ?_) (ltL_c ((TyOk.int .i64).lt _ _) ltL_nil) (TyOk.bool.lt _ _)
  replace h := Ok.of h
  unfold lock_is at h
  refine AWp.seq ?_
  refine W.reg [0] rfl ?_
  refine S.sil 2 rfl rfl (fun _ hF => .assign cB) ?_
  refine S.nil ?_
  refine thenQ_n ?_
  refine AWp.seq ?_
  refine W.reg [0, 1, 2, 3, 4, 5, 6] rfl ?_
  refine S.sil 3 rfl rfl (fun _ hF => .move (lk 1 rfl rfl)) ?_
  refine S.sil 4 rfl rfl (fun _ hF => .geq (lk 0 rfl rfl) cI) ?_
  refine S.sil 5 rfl rfl (fun _ hF => .move (lk 0 rfl rfl)) ?_
  refine S.gsil 6 2 5 true rfl rfl rfl (lk 0 rfl rfl) (fun hB _ hF => .move (lk 4 rfl rfl)) ?_
  refine S.gsil 7 2 5 true rfl rfl rfl (lk 1 rfl rfl) (fun hB _ hF => .lss (ifT hB (lk 0 rfl rfl)) cI) ?_
  refine S.sil 8 rfl rfl (fun _ hF => .pickAnd (lk 2 rfl rfl) (fun h => ifT h (lk 0 rfl rfl)) cB) ?_
  obtain ⟨v2, ev2, h⟩ := h.nam
  refine S.sil 2 rfl rfl (fun _ hF => .nv (.assign (lk 0 rfl rfl)) (congrArg V.bool ev2.symm)) ?_
  refine S.nil ?_
  refine thenQ_n ?_
  refine AWp.ret ?_
  obtain rfl := h.ret
  exact endF1 rfl (Wk.selS [] .nil rfl (SelE.leaf (lk 0 rfl rfl) rfl (.refl _) (fun m => (TyOk.bool.lt _ _)) .nil) .nil) (.tmp (lk 0 rfl rfl) rfl) rfl rfl
theorem C_lock_Right {a1 : TLock} {r : Bool} (h : lock_Right a1 = some r) : PureC Pg 144 [E_TLock a1] (V.bool r) := by
  refine PureC.ofF (CallSpec.of_bodyF 24 0 fn144 rfl rfl rfl (Nat.le_of_ble_eq_true rfl) ?_) (ltL_c (ty_TLock.lt _ _) ltL_nil) (TyOk.bool.lt _ _)
  replace h := Ok.of h
  unfold lock_Right at h
  refine AWp.seq ?_
  refine W.reg [0, 1] rfl ?_
  refine S.eff 1 rfl rfl (.nf (v2 := .ptr 0 [] 0) (H2 := [.cells (E_TLock a1)]) (.box (lk 0 rfl rfl) rfl) rfl rfl) trivial ?_
  refine S.sil 2 rfl rfl (fun _ hF => .assign cB) ?_
  refine S.nil ?_
  refine thenQ_n ?_
  refine AWp.wk (Wk.freeze 0 rfl rfl (.same (lk 0 rfl rfl) (.cons (lk 1 rfl rfl) rfl (.ptr .nil (by first | rfl | omega)) .nil)) (.refl _)) ?_
  refine AWp.seq ?_
  refine W.reg [0] rfl ?_
  refine S.sil 3 rfl rfl (fun _ hF => .assign cF) ?_
  refine S.nil ?_
  refine thenQ_n ?_
  refine AWp.seq ?_
  refine W.reg [0, 1, 2, 3, 4, 5, 6, 7, 8, 9, 10, 11, 12, 13, 14, 15, 16, 17, 18, 19, 20] rfl ?_
  refine S.sil 4 rfl rfl (fun _ hF => .move (lk 0 rfl rfl)) ?_
  refine S.sil 5 rfl rfl (fun _ hF => .fieldAddrC lay39 rfl rfl (lk 3 rfl rfl) rfl flL_nil) ?_
  refine S.sil 6 rfl rfl (fun _ hF => .loadC sz3 ag3 (lk 0 rfl rfl) rfl rfl) ?_
  obtain ⟨r2, m2, h⟩ := h.bnd
  refine S.sil 7 rfl rfl (fun _ hF => .callQ ent204 (lk 2 rfl rfl) (.c (lk 0 rfl rfl) (V.sub.refl _) .nil) (C_lock_Right_1 m2)) ?_
  refine S.sil 8 rfl rfl (fun _ hF => .move (lk 0 rfl rfl)) ?_
  refine S.gsil 9 4 8 true rfl rfl rfl (lk 0 rfl rfl) (fun hB _ hF => .move (lk 5 rfl rfl)) ?_
  refine S.gsil 10 4 8 true rfl rfl rfl (lk 1 rfl rfl) (fun hB _ hF => .fieldAddrC lay39 rfl rfl (lk 8 rfl rfl) rfl (flL_c (show flen _ = 1 from rfl) flL_nil)) ?_
  refine S.gsil 11 4 8 true rfl rfl rfl (lk 2 rfl rfl) (fun hB _ hF => .loadC sz3 ag3 (ifT hB (lk 0 rfl rfl)) rfl rfl) ?_
  obtain ⟨r3, m3, h⟩ := h.bnd
  refine S.gsil 12 4 8 true rfl rfl rfl (lk 3 rfl rfl) (fun hB _ hF => .callQ ent204 (ifT hB (lk 2 rfl rfl)) (.c (ifT hB (lk 0 rfl rfl)) (V.sub.refl _) .nil) (C_lock_Right_1 (gd_get m3 hB))) ?_
  refine S.sil 13 rfl rfl (fun _ hF => .pickAnd (lk 4 rfl rfl) (fun h => ifT h (lk 0 rfl rfl)) cB) ?_
  refine S.sil 14 rfl rfl (fun _ hF => .move (lk 0 rfl rfl)) ?_
  refine S.gsil 15 10 14 true rfl rfl rfl (lk 0 rfl rfl) (fun hB _ hF => .fieldAddrC lay39 rfl rfl (lk 13 rfl rfl) rfl (flL_c (show flen _ = 1 from rfl) (flL_c (show flen _ = 1 from rfl) flL_nil))) ?_
  refine S.gsil 16 10 14 true rfl rfl rfl (lk 1 rfl rfl) (fun hB _ hF => .loadC sz3 ag3 (ifT hB (lk 0 rfl rfl)) rfl rfl) ?_
  obtain ⟨r4, m4, h⟩ := h.bnd
  refine S.gsil 17 10 14 true rfl rfl rfl (lk 2 rfl rfl) (fun hB _ hF => .callQ ent165 cF (.c (ifT hB (lk 0 rfl rfl)) (V.sub.refl _) .nil) (C_lock_is (gd_get m4 hB))) ?_
  refine S.sil 18 rfl rfl (fun _ hF => .pickAnd (lk 3 rfl rfl) (fun h => ifT h (lk 0 rfl rfl)) cB) ?_
  refine S.sil 19 rfl rfl (fun _ hF => .move (lk 0 rfl rfl)) ?_
  refine S.gsil 20 15 19 true rfl rfl rfl (lk 0 rfl rfl) (fun hB _ hF => .fieldAddrC lay39 rfl rfl (lk 18 rfl rfl) rfl (flL_c (show flen _ = 1 from rfl) (flL_c (show flen _ = 1 from rfl) (flL_c (show flen _ = 1 from rfl) flL_nil)))) ?_
  refine S.gsil 21 15 19 true rfl rfl rfl (lk 1 rfl rfl) (fun hB _ hF => .loadC sz3 ag3 (ifT hB (lk 0 rfl rfl)) rfl rfl) ?_
  obtain ⟨r5, m5, h⟩ := h.bnd
  refine S.gsil 22 15 19 true rfl rfl rfl (lk 2 rfl rfl) (fun hB _ hF => .callQ ent77 cF (.c (ifT hB (lk 0 rfl rfl)) (V.sub.refl _) .nil) (C_num_Is (gd_get m5 hB))) ?_
  refine S.sil 23 rfl rfl (fun _ hF => .pickAnd (lk 3 rfl rfl) (fun h => ifT h (lk 0 rfl rfl)) cB) ?_
  obtain ⟨v6, ev6, h⟩ := h.nam
  refine S.sil 2 rfl rfl (fun _ hF => .nv (.assign (lk 0 rfl rfl)) (congrArg V.bool ev6.symm)) ?_
  refine S.nil ?_
  refine thenQ_n ?_
  refine AWp.prune (.eq (lk 0 rfl rfl) rfl .nil) ?_
  refine AWp.ret ?_
  obtain rfl := h.ret
  exact endF1 rfl (Wk.selS [] .nil rfl (SelE.leaf (lk 0 rfl rfl) rfl (.refl _) (fun m => (TyOk.bool.lt _ _)) .nil) .nil) (.tmp (lk 0 rfl rfl) rfl) rfl rfl
theorem C_field_Right {a1 : TField} {r : Bool} (h : field_Right a1 = some r) : PureC Pg 74 [E_TField a1] (V.bool r) := by
  refine PureC.ofF (CallSpec.of_bodyF 53 0 fn74 rfl rfl rfl (Nat.le_of_ble_eq_true rfl) ?_) (ltL_c (ty_TField.lt _ _) ltL_nil) (TyOk.bool.lt _ _)
  replace h := Ok.of h
  unfold field_Right at h
  refine AWp.seq ?_
  refine W.reg [0, 1] rfl ?_
  refine S.eff 1 rfl rfl (.nf (v2 := .ptr 0 [] 0) (H2 := [.cells (E_TField a1)]) (.box (lk 0 rfl rfl) rfl) rfl rfl) trivial ?_
  refine S.sil 2 rfl rfl (fun _ hF => .assign cB) ?_
  refine S.nil ?_
  refine thenQ_n ?_
  refine AWp.wk (Wk.freeze 0 rfl rfl (.same (lk 0 rfl rfl) (.cons (lk 1 rfl rfl) rfl (.ptr .nil (by first | rfl | omega)) .nil)) (.refl _)) ?_
  refine AWp.seq ?_
  refine AWp.seq ?_
  refine W.reg [0, 1, 2, 3, 4, 5, 6, 7, 8, 9, 10, 11, 12, 13, 14] rfl ?_
  refine S.sil 3 rfl rfl (fun _ hF => .fieldAddrC lay42 rfl rfl (lk 1 rfl rfl) rfl flL_nil) ?_
  refine S.sil 4 rfl rfl (fun _ hF => .loadC sz9 ag9 (lk 0 rfl rfl) rfl rfl) ?_
  obtain ⟨r2, m2, h⟩ := h.bnd
  refine S.sil 5 rfl rfl (fun _ hF => .callQ ent115 cF (.c (lk 0 rfl rfl) (V.sub.refl _) .nil) (C_field_Name m2)) ?_
  refine S.sil 6 rfl rfl (fun _ hF => .not (lk 0 rfl rfl)) ?_
  refine S.sil 7 rfl rfl (fun _ hF => .move (lk 0 rfl rfl)) ?_
  refine S.gsil 8 4 7 false rfl rfl rfl (lk 0 rfl rfl) (fun hB _ hF => .fieldAddrC lay42 rfl rfl (lk 6 rfl rfl) rfl (flL_c (show flen _ = 1 from rfl) (flL_c (show flen _ = 1 from rfl) flL_nil))) ?_
  refine S.gsil 9 4 7 false rfl rfl rfl (lk 1 rfl rfl) (fun hB _ hF => .loadC sz3 ag3 (ifT hB (lk 0 rfl rfl)) rfl rfl) ?_
  refine S.gsil 10 4 7 false rfl rfl rfl (lk 2 rfl rfl) (fun hB _ hF => .lss (ifT hB (lk 0 rfl rfl)) cI) ?_
  refine S.sil 11 rfl rfl (fun _ hF => .pickOr (lk 3 rfl rfl) cB (fun h => ifT h (lk 0 rfl rfl))) ?_
  refine S.sil 12 rfl rfl (fun _ hF => .move (lk 0 rfl rfl)) ?_
  refine S.gsil 13 9 12 false rfl rfl rfl (lk 0 rfl rfl) (fun hB _ hF => .fieldAddrC lay42 rfl rfl (lk 11 rfl rfl) rfl (flL_c (show flen _ = 1 from rfl) (flL_c (show flen _ = 1 from rfl) flL_nil))) ?_
  refine S.gsil 14 9 12 false rfl rfl rfl (lk 1 rfl rfl) (fun hB _ hF => .loadC sz3 ag3 (ifT hB (lk 0 rfl rfl)) rfl rfl) ?_
  obtain ⟨r3, m3, h⟩ := h.bnd
  refine S.gsil 15 9 12 false rfl rfl rfl (lk 2 rfl rfl) (fun hB _ hF => .callQ ent77 cF (.c (ifT hB (lk 0 rfl rfl)) (V.sub.refl _) .nil) (C_num_Is (gd_get m3 hB))) ?_
  refine S.gsil 16 9 12 false rfl rfl rfl (lk 3 rfl rfl) (fun hB _ hF => .not (ifT hB (lk 0 rfl rfl))) ?_
  refine S.sil 17 rfl rfl (fun _ hF => .pickOr (lk 4 rfl rfl) cB (fun h => ifT h (lk 0 rfl rfl))) ?_
  refine S.nil ?_
  refine thenQ_n ?_
  refine AWp.prune (.eq (lk 0 rfl rfl) rfl (.eq (lk 15 rfl rfl) rfl (.eq (lk 16 rfl rfl) rfl .nil))) ?_
  refine AWp.condM (lk 0 rfl rfl) h (fun c1 h => ?_) (fun c1 h => ?_)
  · skip
    refine AWp.seq ?_
    refine W.reg [0] rfl ?_
    refine S.sil 2 rfl rfl (fun _ hF => .assign cB) ?_
    refine S.nil ?_
    refine thenQ_n ?_
    refine AWp.ret ?_
    refine thenQ_r ?_
    obtain rfl := h.ret
    exact endF1 rfl (Wk.selS [] .nil rfl (SelE.leaf (lk 0 rfl rfl) rfl (.refl _) (fun m => (TyOk.bool.lt _ _)) .nil) .nil) (.tmp (lk 0 rfl rfl) rfl) rfl rfl
  · skip
    refine AWp.skip ?_
    refine thenQ_n ?_
    refine AWp.seq ?_
    refine AWp.seq ?_
    refine W.reg [0, 1] rfl ?_
    refine S.sil 18 rfl rfl (fun _ hF => .fieldAddrC lay42 rfl rfl (lk 2 rfl rfl) rfl (flL_c (show flen _ = 1 from rfl) flL_nil)) ?_
    refine S.sil 19 rfl rfl (fun _ hF => .loadC sz3 ag3 (lk 0 rfl rfl) rfl rfl) ?_
    refine S.nil ?_
    refine thenQ_n ?_
    refine AWp.block ?_
    refine AWp.seq ?_
    refine W.reg [0, 1] rfl ?_
    refine S.sil 21 rfl rfl (fun _ hF => .eql (lk 0 rfl rfl) cI) ?_
    refine S.sil 20 rfl rfl (fun _ hF => .assign (lk 0 rfl rfl)) ?_
    refine S.nil ?_
    refine thenQ_n ?_
    refine AWp.condM (lk 0 rfl rfl) h (fun c2 h => ?_) (fun c2 h => ?_)
    · skip
      refine AWp.seq ?_
      refine W.reg [0, 1, 2, 3, 4, 5, 6, 7, 8, 9, 10, 11, 12, 13, 14] rfl ?_
      refine S.sil 22 rfl rfl (fun _ hF => .fieldAddrC lay42 rfl rfl (lk 6 rfl rfl) rfl (flL_c (show flen _ = 1 from rfl) (flL_c (show flen _ = 1 from rfl) (flL_c (show flen _ = 1 from rfl) flL_nil)))) ?_
      refine S.sil 23 rfl rfl (fun _ hF => .loadC sz37 ag37 (lk 0 rfl rfl) (ty_TCounter.fl a1.Counter) rfl) ?_
      obtain ⟨r4, m4, h⟩ := h.bnd
      refine S.sil 24 rfl rfl (fun _ hF => .callQ ent143 cF (.c (lk 0 rfl rfl) (V.sub.refl _) .nil) (C_counter_Right m4)) ?_
      refine S.sil 25 rfl rfl (fun _ hF => .move (lk 0 rfl rfl)) ?_
      refine S.gsil 26 3 25 true rfl rfl rfl (lk 0 rfl rfl) (fun hB _ hF => .fieldAddrC lay42 rfl rfl (lk 10 rfl rfl) rfl (flL_c (show flen _ = 1 from rfl) (flL_c (show flen _ = 1 from rfl) (flL_c (show flen _ = 1 from rfl) (flL_c (ty_TCounter.fl a1.Counter) (flL_c (ty_TLock.fl a1.Lock) flL_nil)))))) ?_
      refine S.gsil 27 3 25 true rfl rfl rfl (lk 1 rfl rfl) (fun hB _ hF => .loadC sz40 ag40 (ifT hB (lk 0 rfl rfl)) rfl rfl) ?_
      obtain ⟨r5, m5, h⟩ := h.bnd
      refine S.gsil 28 3 25 true rfl rfl rfl (lk 2 rfl rfl) (fun hB _ hF => .callQ ent132 cF (.c (ifT hB (lk 0 rfl rfl)) (V.sub.refl _) .nil) (C_hold_Rights (gd_get m5 hB))) ?_
      refine S.sil 29 rfl rfl (fun _ hF => .pickAnd (lk 3 rfl rfl) (fun h => ifT h (lk 0 rfl rfl)) cB) ?_
      refine S.sil 30 rfl rfl (fun _ hF => .move (lk 0 rfl rfl)) ?_
      refine S.gsil 31 8 30 true rfl rfl rfl (lk 0 rfl rfl) (fun hB _ hF => .fieldAddrC lay42 rfl rfl (lk 15 rfl rfl) rfl (flL_c (show flen _ = 1 from rfl) (flL_c (show flen _ = 1 from rfl) (flL_c (show flen _ = 1 from rfl) (flL_c (ty_TCounter.fl a1.Counter) flL_nil))))) ?_
      refine S.gsil 32 8 30 true rfl rfl rfl (lk 1 rfl rfl) (fun hB _ hF => .loadC sz39 ag39 (ifT hB (lk 0 rfl rfl)) (ty_TLock.fl a1.Lock) rfl) ?_
      refine S.gsil 33 8 30 true rfl rfl rfl (lk 2 rfl rfl) (fun hB _ hF => .nv (v2 := E_TLock (⟨0, 0, 0, 0⟩ : TLock)) (.buildStW lay39 zv39 rfl .nil) rfl) ?_
      refine S.gsil 34 8 30 true rfl rfl rfl (lk 3 rfl rfl) (fun hB _ hF => .eqlT eqt39 eqk_TLock shk_TLock (ifT hB (lk 1 rfl rfl)) (ifT hB (lk 0 rfl rfl)) rfl rfl) ?_
      refine S.sil 35 rfl rfl (fun _ hF => .pickAnd (lk 4 rfl rfl) (fun h => ifT h (lk 0 rfl rfl)) cB) ?_
      obtain ⟨v6, ev6, h⟩ := h.nam
      refine S.sil 2 rfl rfl (fun _ hF => .nv (.assign (lk 0 rfl rfl)) (congrArg V.bool ev6.symm)) ?_
      refine S.nil ?_
      refine thenQ_n ?_
      refine AWp.prune (.eq (lk 0 rfl rfl) rfl .nil) ?_
      refine AWp.ret ?_
      refine blockQ_r ?_
      refine thenQ_r ?_
      obtain rfl := h.ret
      exact endF1 rfl (Wk.selS [] .nil rfl (SelE.leaf (lk 0 rfl rfl) rfl (.refl _) (fun m => (TyOk.bool.lt _ _)) .nil) .nil) (.tmp (lk 0 rfl rfl) rfl) rfl rfl
    · skip
      refine AWp.seq ?_
      refine W.reg [0, 1] rfl ?_
      refine S.sil 37 rfl rfl (fun _ hF => .eql (lk 2 rfl rfl) cI) ?_
      refine S.sil 36 rfl rfl (fun _ hF => .assign (lk 0 rfl rfl)) ?_
      refine S.nil ?_
      refine thenQ_n ?_
      refine AWp.condM (lk 0 rfl rfl) h (fun c3 h => ?_) (fun c3 h => ?_)
      · skip
        refine AWp.seq ?_
        refine W.reg [0, 1, 2, 3, 4, 5, 6, 7, 8, 9, 10, 11, 12, 13, 14, 15] rfl ?_
        refine S.sil 38 rfl rfl (fun _ hF => .fieldAddrC lay42 rfl rfl (lk 8 rfl rfl) rfl (flL_c (show flen _ = 1 from rfl) (flL_c (show flen _ = 1 from rfl) (flL_c (show flen _ = 1 from rfl) (flL_c (ty_TCounter.fl a1.Counter) flL_nil))))) ?_
        refine S.sil 39 rfl rfl (fun _ hF => .loadC sz39 ag39 (lk 0 rfl rfl) (ty_TLock.fl a1.Lock) rfl) ?_
        obtain ⟨r7, m7, h⟩ := h.bnd
        refine S.sil 40 rfl rfl (fun _ hF => .callQ ent144 cF (.c (lk 0 rfl rfl) (V.sub.refl _) .nil) (C_lock_Right m7)) ?_
        refine S.sil 41 rfl rfl (fun _ hF => .move (lk 0 rfl rfl)) ?_
        refine S.gsil 42 3 41 true rfl rfl rfl (lk 0 rfl rfl) (fun hB _ hF => .fieldAddrC lay42 rfl rfl (lk 12 rfl rfl) rfl (flL_c (show flen _ = 1 from rfl) (flL_c (show flen _ = 1 from rfl) (flL_c (show flen _ = 1 from rfl) (flL_c (ty_TCounter.fl a1.Counter) (flL_c (ty_TLock.fl a1.Lock) flL_nil)))))) ?_
        refine S.gsil 43 3 41 true rfl rfl rfl (lk 1 rfl rfl) (fun hB _ hF => .loadC sz40 ag40 (ifT hB (lk 0 rfl rfl)) rfl rfl) ?_
        refine S.gsil 44 3 41 true rfl rfl rfl (lk 2 rfl rfl) (fun hB _ hF => .lenT sli40 (ifT hB (lk 0 rfl rfl)) (vsub rfl (.refl _))) ?_
        refine S.gsil 45 3 41 true rfl rfl rfl (lk 3 rfl rfl) (fun hB _ hF => .eql (ifT hB (lk 0 rfl rfl)) cI) ?_
        refine S.sil 46 rfl rfl (fun _ hF => .pickAnd (lk 4 rfl rfl) (fun h => ifT h (lk 0 rfl rfl)) cB) ?_
        refine S.sil 47 rfl rfl (fun _ hF => .move (lk 0 rfl rfl)) ?_
        refine S.gsil 48 9 47 true rfl rfl rfl (lk 0 rfl rfl) (fun hB _ hF => .fieldAddrC lay42 rfl rfl (lk 18 rfl rfl) rfl (flL_c (show flen _ = 1 from rfl) (flL_c (show flen _ = 1 from rfl) (flL_c (show flen _ = 1 from rfl) flL_nil)))) ?_
        refine S.gsil 49 9 47 true rfl rfl rfl (lk 1 rfl rfl) (fun hB _ hF => .loadC sz37 ag37 (ifT hB (lk 0 rfl rfl)) (ty_TCounter.fl a1.Counter) rfl) ?_
        refine S.gsil 50 9 47 true rfl rfl rfl (lk 2 rfl rfl) (fun hB _ hF => .nv (v2 := E_TCounter (⟨0, 0, 0, (default : TRights), (default : TRights)⟩ : TCounter)) (.buildStW lay37 zv37 rfl .nil) rfl) ?_
        refine S.gsil 51 9 47 true rfl rfl rfl (lk 3 rfl rfl) (fun hB _ hF => .eqlT eqt37 eqk_TCounter shk_TCounter (ifT hB (lk 1 rfl rfl)) (ifT hB (lk 0 rfl rfl)) rfl rfl) ?_
        obtain ⟨v8, ev8, h⟩ := h.nam
        refine S.sil 52 rfl rfl (fun _ hF => .nv (.pickAnd (lk 4 rfl rfl) (fun h => ifT h (lk 0 rfl rfl)) cB) (congrArg V.bool ev8.symm)) ?_
        refine S.sil 2 rfl rfl (fun _ hF => .assign (lk 0 rfl rfl)) ?_
        refine S.nil ?_
        refine thenQ_n ?_
        refine AWp.prune (.eq (lk 0 rfl rfl) rfl .nil) ?_
        refine AWp.ret ?_
        refine blockQ_r ?_
        refine thenQ_r ?_
        obtain rfl := h.ret
        exact endF1 rfl (Wk.selS [] .nil rfl (SelE.leaf (lk 0 rfl rfl) rfl (.refl _) (fun m => (TyOk.bool.lt _ _)) .nil) .nil) (.tmp (lk 0 rfl rfl) rfl) rfl rfl
      · skip
        refine AWp.skip ?_
        refine blockQ_n ?_
        refine thenQ_n ?_
        refine AWp.seq ?_
        refine W.reg [0] rfl ?_
        refine S.sil 2 rfl rfl (fun _ hF => .assign cB) ?_
        refine S.nil ?_
        refine thenQ_n ?_
        refine AWp.ret ?_
        obtain rfl := h.ret
        exact endF1 rfl (Wk.selS [] .nil rfl (SelE.leaf (lk 0 rfl rfl) rfl (.refl _) (fun m => (TyOk.bool.lt _ _)) .nil) .nil) (.tmp (lk 0 rfl rfl) rfl) rfl rfl
theorem C_usufructlaw07_awake  {r : Bool} (h : usufructlaw07_awake = some r) : PureC Pg 21 [] (V.bool r) := by
  refine PureC.ofF (CallSpec.of_bodyF 75 0 fn21 rfl rfl rfl (Nat.le_of_ble_eq_true rfl) ?_) ltL_nil (TyOk.bool.lt _ _)
  replace h := Ok.of h
  unfold usufructlaw07_awake at h
  refine AWp.seq ?_
  refine W.reg [0] rfl ?_
  refine S.sil 0 rfl rfl (fun _ hF => .assign cB) ?_
  refine S.nil ?_
  refine thenQ_n ?_
  refine AWp.seq ?_
  refine W.reg [0, 1, 2, 3, 4, 5, 6] rfl ?_
  obtain ⟨r1, m1, h⟩ := h.bnd
  refine S.sil 15 rfl rfl (fun _ hF => .callQ ent44 cF (.c cS (V.sub.refl _) (.c cI (V.sub.refl _) (.c cI (V.sub.refl _) (.c cI (V.sub.refl _) .nil)))) (C_field_Counter m1)) ?_
  refine S.sil 14 rfl rfl (fun _ hF => .move (lk 0 rfl rfl)) ?_
  refine S.sil 16 rfl rfl (fun _ hF => .extract (lk 0 rfl rfl) rfl) ?_
  refine S.sil 17 rfl rfl (fun _ hF => .extract (lk 1 rfl rfl) rfl) ?_
  refine S.eff 1 rfl rfl (.nf (v2 := .ptr 0 [] 0) (H2 := [.cells (.st [V.str (default : ByteArray), (V.int .i64) 0, (V.int .i64) 0, E_TCounter (default : TCounter), E_TLock (default : TLock), .nils])]) (.alloc zv42) rfl rfl) trivial ?_
  refine S.effN rfl rfl (.nf (H2 := [.cells (E_TField r1.1)]) (.storeP sz42 (lk 0 rfl rfl) (lk 2 rfl rfl) rfl (.refl _) rfl .nil (by first | rfl | omega) .nil (ty_TField.fl r1.1) (fl_st (flL_c (show flen _ = 1 from rfl) (flL_c (show flen _ = 1 from rfl) (flL_c (show flen _ = 1 from rfl) (flL_c (ty_TCounter.fl (default : TCounter)) (flL_c (ty_TLock.fl (default : TLock)) (flL_c (show flen _ = 1 from rfl) flL_nil))))))) rfl) rfl rfl) trivial ?_
  refine S.sil 2 rfl rfl (fun _ hF => .assign (lk 1 rfl rfl)) ?_
  refine S.nil ?_
  refine thenQ_n ?_
  refine AWp.wk (Wk.freeze 0 rfl rfl (.same (lk 0 rfl rfl) (.cons (lk 1 rfl rfl) rfl (.ptr .nil (by first | rfl | omega)) (.same (lk 6 rfl rfl) .nil))) (.refl _)) ?_
  refine AWp.seq ?_
  refine W.reg [0, 1, 2, 3, 4, 5, 6, 7, 8, 9] rfl ?_
  refine S.sil 19 rfl rfl (fun _ hF => .loadC sz42 ag42 (lk 1 rfl rfl) (ty_TField.fl r1.1) rfl) ?_
  obtain ⟨r2, m2, h⟩ := h.bnd
  refine S.sil 20 rfl rfl (fun _ hF => .callQ ent47 cF (.c (lk 0 rfl rfl) (V.sub.refl _) (.c cI (V.sub.refl _) (.c cI (V.sub.refl _) (.c cI (V.sub.refl _) .nil)))) (C_field_Reserve m2)) ?_
  refine S.sil 18 rfl rfl (fun _ hF => .move (lk 0 rfl rfl)) ?_
  refine S.sil 21 rfl rfl (fun _ hF => .extract (lk 0 rfl rfl) rfl) ?_
  refine S.sil 22 rfl rfl (fun _ hF => .extract (lk 1 rfl rfl) rfl) ?_
  refine S.sil 23 rfl rfl (fun _ hF => .extract (lk 2 rfl rfl) rfl) ?_
  refine S.eff 3 rfl rfl (.nf (v2 := .ptr 1 [] 0) (H2 := [.dead, .cells (.st [V.str (default : ByteArray), (V.int .i64) 0, (V.int .i64) 0, E_TCounter (default : TCounter), E_TLock (default : TLock), .nils])]) (.alloc zv42) rfl rfl) trivial ?_
  refine S.effN rfl rfl (.nf (H2 := [.dead, .cells (E_TField r2.1)]) (.storeP sz42 (lk 0 rfl rfl) (lk 3 rfl rfl) rfl (.refl _) rfl .nil (by first | rfl | omega) .nil (ty_TField.fl r2.1) (fl_st (flL_c (show flen _ = 1 from rfl) (flL_c (show flen _ = 1 from rfl) (flL_c (show flen _ = 1 from rfl) (flL_c (ty_TCounter.fl (default : TCounter)) (flL_c (ty_TLock.fl (default : TLock)) (flL_c (show flen _ = 1 from rfl) flL_nil))))))) rfl) rfl rfl) trivial ?_
  refine S.sil 4 rfl rfl (fun _ hF => .assign (lk 2 rfl rfl)) ?_
  refine S.sil 5 rfl rfl (fun _ hF => .assign (lk 2 rfl rfl)) ?_
  refine S.nil ?_
  refine thenQ_n ?_
  refine AWp.wk (Wk.freeze 1 rfl rfl (.same (lk 0 rfl rfl) (.same (lk 1 rfl rfl) (.cons (lk 2 rfl rfl) rfl (.ptr .nil (by first | rfl | omega)) (.same (lk 9 rfl rfl) (.same (lk 11 rfl rfl) .nil))))) (.refl _)) ?_
  refine AWp.seq ?_
  refine W.reg [0, 1, 2, 3, 4, 5, 6, 7] rfl ?_
  refine S.sil 25 rfl rfl (fun _ hF => .loadC sz42 ag42 (lk 2 rfl rfl) (ty_TField.fl r2.1) rfl) ?_
  obtain ⟨r3, m3, h⟩ := h.bnd
  refine S.sil 26 rfl rfl (fun _ hF => .callQ ent24 cF (.c (lk 0 rfl rfl) (V.sub.refl _) (.c cI (V.sub.refl _) (.c cI (V.sub.refl _) .nil))) (C_field_Add m3)) ?_
  refine S.sil 24 rfl rfl (fun _ hF => .move (lk 0 rfl rfl)) ?_
  refine S.sil 27 rfl rfl (fun _ hF => .extract (lk 0 rfl rfl) rfl) ?_
  refine S.sil 28 rfl rfl (fun _ hF => .extract (lk 1 rfl rfl) rfl) ?_
  refine S.eff 6 rfl rfl (.nf (v2 := .ptr 2 [] 0) (H2 := [.dead, .dead, .cells (.st [V.str (default : ByteArray), (V.int .i64) 0, (V.int .i64) 0, E_TCounter (default : TCounter), E_TLock (default : TLock), .nils])]) (.alloc zv42) rfl rfl) trivial ?_
  refine S.effN rfl rfl (.nf (H2 := [.dead, .dead, .cells (E_TField r3.1)]) (.storeP sz42 (lk 0 rfl rfl) (lk 2 rfl rfl) rfl (.refl _) rfl .nil (by first | rfl | omega) .nil (ty_TField.fl r3.1) (fl_st (flL_c (show flen _ = 1 from rfl) (flL_c (show flen _ = 1 from rfl) (flL_c (show flen _ = 1 from rfl) (flL_c (ty_TCounter.fl (default : TCounter)) (flL_c (ty_TLock.fl (default : TLock)) (flL_c (show flen _ = 1 from rfl) flL_nil))))))) rfl) rfl rfl) trivial ?_
  refine S.sil 7 rfl rfl (fun _ hF => .assign (lk 1 rfl rfl)) ?_
  refine S.nil ?_
  refine thenQ_n ?_
  refine AWp.wk (Wk.freeze 2 rfl rfl (.same (lk 0 rfl rfl) (.same (lk 7 rfl rfl) (.same (lk 8 rfl rfl) (.same (lk 9 rfl rfl) (.same (lk 10 rfl rfl) (.same (lk 11 rfl rfl) .nil)))))) (.refl _)) ?_
  refine AWp.seq ?_
  refine W.reg [0, 1, 2, 3, 4, 5, 6, 7] rfl ?_
  refine S.sil 30 rfl rfl (fun _ hF => .loadC sz42 ag42 (lk 3 rfl rfl) (ty_TField.fl r2.1) rfl) ?_
  obtain ⟨r4, m4, h⟩ := h.bnd
  refine S.sil 31 rfl rfl (fun _ hF => .callQ ent24 cF (.c (lk 0 rfl rfl) (V.sub.refl _) (.c cI (V.sub.refl _) (.c cI (V.sub.refl _) .nil))) (C_field_Add m4)) ?_
  refine S.sil 29 rfl rfl (fun _ hF => .move (lk 0 rfl rfl)) ?_
  refine S.sil 32 rfl rfl (fun _ hF => .extract (lk 0 rfl rfl) rfl) ?_
  refine S.sil 33 rfl rfl (fun _ hF => .extract (lk 1 rfl rfl) rfl) ?_
  refine S.eff 8 rfl rfl (.nf (v2 := .ptr 3 [] 0) (H2 := [.dead, .dead, .dead, .cells (.st [V.str (default : ByteArray), (V.int .i64) 0, (V.int .i64) 0, E_TCounter (default : TCounter), E_TLock (default : TLock), .nils])]) (.alloc zv42) rfl rfl) trivial ?_
  refine S.effN rfl rfl (.nf (H2 := [.dead, .dead, .dead, .cells (E_TField r4.1)]) (.storeP sz42 (lk 0 rfl rfl) (lk 2 rfl rfl) rfl (.refl _) rfl .nil (by first | rfl | omega) .nil (ty_TField.fl r4.1) (fl_st (flL_c (show flen _ = 1 from rfl) (flL_c (show flen _ = 1 from rfl) (flL_c (show flen _ = 1 from rfl) (flL_c (ty_TCounter.fl (default : TCounter)) (flL_c (ty_TLock.fl (default : TLock)) (flL_c (show flen _ = 1 from rfl) flL_nil))))))) rfl) rfl rfl) trivial ?_
  refine S.sil 9 rfl rfl (fun _ hF => .assign (lk 1 rfl rfl)) ?_
  refine S.nil ?_
  refine thenQ_n ?_
  refine AWp.wk (Wk.freeze 3 rfl rfl (.same (lk 0 rfl rfl) (.cons (lk 1 rfl rfl) rfl (.ptr .nil (by first | rfl | omega)) (.same (lk 7 rfl rfl) (.same (lk 8 rfl rfl) (.same (lk 9 rfl rfl) (.same (lk 11 rfl rfl) (.same (lk 12 rfl rfl) .nil))))))) (.refl _)) ?_
  refine AWp.seq ?_
  refine W.reg [0, 1, 2, 3, 4, 5, 6, 7, 8] rfl ?_
  refine S.sil 35 rfl rfl (fun _ hF => .loadC sz42 ag42 (lk 1 rfl rfl) (ty_TField.fl r4.1) rfl) ?_
  refine S.sil 36 rfl rfl (fun _ hF => .move (lk 5 rfl rfl)) ?_
  obtain ⟨r5, m5, h⟩ := h.bnd
  refine S.sil 37 rfl rfl (fun _ hF => .callQ ent48 cF (.c (lk 1 rfl rfl) (V.sub.refl _) (.c cI (V.sub.refl _) (.c (lk 0 rfl rfl) (V.sub.refl _) (.c cI (V.sub.refl _) .nil)))) (C_field_End m5)) ?_
  refine S.sil 34 rfl rfl (fun _ hF => .move (lk 0 rfl rfl)) ?_
  refine S.sil 38 rfl rfl (fun _ hF => .extract (lk 0 rfl rfl) rfl) ?_
  refine S.sil 39 rfl rfl (fun _ hF => .extract (lk 1 rfl rfl) rfl) ?_
  refine S.eff 10 rfl rfl (.nf (v2 := .ptr 4 [] 0) (H2 := [.dead, .dead, .dead, .dead, .cells (.st [V.str (default : ByteArray), (V.int .i64) 0, (V.int .i64) 0, E_TCounter (default : TCounter), E_TLock (default : TLock), .nils])]) (.alloc zv42) rfl rfl) trivial ?_
  refine S.effN rfl rfl (.nf (H2 := [.dead, .dead, .dead, .dead, .cells (E_TField r5.1)]) (.storeP sz42 (lk 0 rfl rfl) (lk 2 rfl rfl) rfl (.refl _) rfl .nil (by first | rfl | omega) .nil (ty_TField.fl r5.1) (fl_st (flL_c (show flen _ = 1 from rfl) (flL_c (show flen _ = 1 from rfl) (flL_c (show flen _ = 1 from rfl) (flL_c (ty_TCounter.fl (default : TCounter)) (flL_c (ty_TLock.fl (default : TLock)) (flL_c (show flen _ = 1 from rfl) flL_nil))))))) rfl) rfl rfl) trivial ?_
  refine S.sil 11 rfl rfl (fun _ hF => .assign (lk 1 rfl rfl)) ?_
  refine S.nil ?_
  refine thenQ_n ?_
  refine AWp.wk (Wk.freeze 4 rfl rfl (.same (lk 0 rfl rfl) (.cons (lk 1 rfl rfl) rfl (.ptr .nil (by first | rfl | omega)) (.same (lk 8 rfl rfl) (.same (lk 10 rfl rfl) (.same (lk 11 rfl rfl) (.same (lk 13 rfl rfl) (.same (lk 14 rfl rfl) .nil))))))) (.refl _)) ?_
  refine AWp.seq ?_
  refine W.reg [0, 1, 2, 3, 4, 5, 6] rfl ?_
  refine S.sil 41 rfl rfl (fun _ hF => .loadC sz42 ag42 (lk 1 rfl rfl) (ty_TField.fl r5.1) rfl) ?_
  obtain ⟨r6, m6, h⟩ := h.bnd
  refine S.sil 42 rfl rfl (fun _ hF => .callQ ent49 cF (.c (lk 0 rfl rfl) (V.sub.refl _) .nil) (C_field_View m6)) ?_
  refine S.sil 40 rfl rfl (fun _ hF => .move (lk 0 rfl rfl)) ?_
  refine S.sil 43 rfl rfl (fun _ hF => .extract (lk 0 rfl rfl) rfl) ?_
  refine S.sil 44 rfl rfl (fun _ hF => .extract (lk 1 rfl rfl) rfl) ?_
  refine S.sil 12 rfl rfl (fun _ hF => .assign (lk 1 rfl rfl)) ?_
  refine S.sil 13 rfl rfl (fun _ hF => .assign (lk 1 rfl rfl)) ?_
  refine S.nil ?_
  refine thenQ_n ?_
  refine AWp.seq ?_
  refine W.reg [0, 1, 2, 3, 4, 5, 6, 7, 8, 9, 10, 11, 12, 13, 14, 15, 16, 17, 18, 19, 20, 21, 22, 23, 24, 25, 26, 27, 28, 29, 30] rfl ?_
  refine S.sil 45 rfl rfl (fun _ hF => .move (lk 12 rfl rfl)) ?_
  refine S.sil 46 rfl rfl (fun _ hF => .eql (lk 0 rfl rfl) cI) ?_
  refine S.sil 47 rfl rfl (fun _ hF => .move (lk 0 rfl rfl)) ?_
  refine S.gsil 48 2 47 true rfl rfl rfl (lk 0 rfl rfl) (fun hB _ hF => .move (lk 14 rfl rfl)) ?_
  refine S.gsil 49 2 47 true rfl rfl rfl (lk 1 rfl rfl) (fun hB _ hF => .eql (ifT hB (lk 0 rfl rfl)) cI) ?_
  refine S.sil 50 rfl rfl (fun _ hF => .pickAnd (lk 2 rfl rfl) (fun h => ifT h (lk 0 rfl rfl)) cB) ?_
  refine S.sil 51 rfl rfl (fun _ hF => .move (lk 0 rfl rfl)) ?_
  refine S.gsil 52 6 51 true rfl rfl rfl (lk 0 rfl rfl) (fun hB _ hF => .move (lk 17 rfl rfl)) ?_
  refine S.gsil 53 6 51 true rfl rfl rfl (lk 1 rfl rfl) (fun hB _ hF => .eql (ifT hB (lk 0 rfl rfl)) cI) ?_
  obtain ⟨v7, ev7, h⟩ := h.nam
  refine S.sil 54 rfl rfl (fun _ hF => .nv (.pickAnd (lk 2 rfl rfl) (fun h => ifT h (lk 0 rfl rfl)) cB) (congrArg V.bool ev7.symm)) ?_
  refine S.sil 55 rfl rfl (fun _ hF => .move (lk 0 rfl rfl)) ?_
  refine S.gsil 56 10 55 true rfl rfl rfl (lk 0 rfl rfl) (fun hB _ hF => .move (lk 20 rfl rfl)) ?_
  refine S.gsil 57 10 55 true rfl rfl rfl (lk 1 rfl rfl) (fun hB _ hF => .eql (ifT hB (lk 0 rfl rfl)) cI) ?_
  refine S.sil 58 rfl rfl (fun _ hF => .pickAnd (lk 2 rfl rfl) (fun h => ifT h (lk 0 rfl rfl)) cB) ?_
  refine S.sil 59 rfl rfl (fun _ hF => .move (lk 0 rfl rfl)) ?_
  refine S.gsil 60 14 59 true rfl rfl rfl (lk 0 rfl rfl) (fun hB _ hF => .move (lk 22 rfl rfl)) ?_
  refine S.gsil 61 14 59 true rfl rfl rfl (lk 1 rfl rfl) (fun hB _ hF => .eql (ifT hB (lk 0 rfl rfl)) cI) ?_
  refine S.sil 62 rfl rfl (fun _ hF => .pickAnd (lk 2 rfl rfl) (fun h => ifT h (lk 0 rfl rfl)) cB) ?_
  refine S.sil 63 rfl rfl (fun _ hF => .move (lk 0 rfl rfl)) ?_
  refine S.gsil 64 18 63 true rfl rfl rfl (lk 0 rfl rfl) (fun hB _ hF => .move (lk 20 rfl rfl)) ?_
  refine S.gsil 65 18 63 true rfl rfl rfl (lk 1 rfl rfl) (fun hB _ hF => .eql (ifT hB (lk 0 rfl rfl)) cI) ?_
  obtain ⟨v8, ev8, h⟩ := h.nam
  refine S.sil 66 rfl rfl (fun _ hF => .nv (.pickAnd (lk 2 rfl rfl) (fun h => ifT h (lk 0 rfl rfl)) cB) (congrArg V.bool ev8.symm)) ?_
  refine S.sil 67 rfl rfl (fun _ hF => .move (lk 0 rfl rfl)) ?_
  refine S.gsil 68 22 67 true rfl rfl rfl (lk 0 rfl rfl) (fun hB _ hF => .move (lk 23 rfl rfl)) ?_
  refine S.gsil 69 22 67 true rfl rfl rfl (lk 1 rfl rfl) (fun hB _ hF => .eql (ifT hB (lk 0 rfl rfl)) cI) ?_
  refine S.sil 70 rfl rfl (fun _ hF => .pickAnd (lk 2 rfl rfl) (fun h => ifT h (lk 0 rfl rfl)) cB) ?_
  refine S.sil 71 rfl rfl (fun _ hF => .move (lk 0 rfl rfl)) ?_
  refine S.gsil 72 26 71 true rfl rfl rfl (lk 0 rfl rfl) (fun hB _ hF => .loadC sz42 ag42 (lk 35 rfl rfl) (ty_TField.fl r5.1) rfl) ?_
  obtain ⟨r9, m9, h⟩ := h.bnd
  refine S.gsil 73 26 71 true rfl rfl rfl (lk 1 rfl rfl) (fun hB _ hF => .callQ ent74 cF (.c (ifT hB (lk 0 rfl rfl)) (V.sub.refl _) .nil) (C_field_Right (gd_get m9 hB))) ?_
  refine S.sil 74 rfl rfl (fun _ hF => .pickAnd (lk 2 rfl rfl) (fun h => ifT h (lk 0 rfl rfl)) cB) ?_
  obtain ⟨v10, ev10, h⟩ := h.nam
  refine S.sil 0 rfl rfl (fun _ hF => .nv (.assign (lk 0 rfl rfl)) (congrArg V.bool ev10.symm)) ?_
  refine S.nil ?_
  refine thenQ_n ?_
  refine AWp.prune (.eq (lk 0 rfl rfl) rfl .nil) ?_
  refine AWp.ret ?_
  obtain rfl := h.ret
  exact endF1 rfl (Wk.selS [] .nil rfl (SelE.leaf (lk 0 rfl rfl) rfl (.refl _) (fun m => (TyOk.bool.lt _ _)) .nil) .nil) (.tmp (lk 0 rfl rfl) rfl) rfl rfl
theorem C_rights_Move {a1 : TRights} {a2 : Int} {a3 : Int} {a4 : Int} {r : TRights × Int} (h : rights_Move a1 a2 a3 a4 = some r) : PureC Pg 160 [E_TRights a1, (V.int .i64) a2, (V.int .i64) a3, (V.int .i64) a4] (.tup [E_TRights r.1, (V.int .i64) r.2]) := by
  refine PureC.ofF (CallSpec.of_bodyF 51 0 fn160 rfl rfl rfl (Nat.le_of_ble_eq_true rfl) ?_) (ltL_c (ty_TRights.lt _ _) (ltL_c ((TyOk.int .i64).lt _ _) (ltL_c ((TyOk.int .i64).lt _ _) (ltL_c ((TyOk.int .i64).lt _ _) ltL_nil)))) (lt_tup (ltL_c (ty_TRights.lt _ _) (ltL_c ((TyOk.int .i64).lt _ _) ltL_nil)))
  replace h := Ok.of h
  unfold rights_Move at h
  refine AWp.seq ?_
  refine W.reg [0, 1, 2] rfl ?_
  refine S.eff 4 rfl rfl (.nf (v2 := .ptr 0 [] 0) (H2 := [.cells (E_TRights a1)]) (.box (lk 0 rfl rfl) rfl) rfl rfl) trivial ?_
  refine S.eff 8 rfl rfl (.nf (v2 := .ptr 1 [] 0) (H2 := [.cells (E_TRights a1), .cells (E_TRights (default : TRights))]) (.alloc zv35) rfl rfl) trivial ?_
  refine S.sil 9 rfl rfl (fun _ hF => .assign cI) ?_
  refine S.nil ?_
  refine thenQ_n ?_
  refine AWp.seq ?_
  refine AWp.seq ?_
  refine W.reg [0, 1, 2, 3, 4, 5, 6, 7, 8, 9, 10, 11, 12] rfl ?_
  refine S.sil 12 rfl rfl (fun _ hF => .move (lk 4 rfl rfl)) ?_
  obtain ⟨r5, m5, h⟩ := h.bnd
  refine S.sil 13 rfl rfl (fun _ hF => .callQ ent208 cF (.c (lk 0 rfl rfl) (V.sub.refl _) .nil) (C_rights_is m5)) ?_
  refine S.sil 14 rfl rfl (fun _ hF => .not (lk 0 rfl rfl)) ?_
  refine S.sil 15 rfl rfl (fun _ hF => .move (lk 0 rfl rfl)) ?_
  refine S.gsil 16 3 15 false rfl rfl rfl (lk 0 rfl rfl) (fun hB _ hF => .move (lk 9 rfl rfl)) ?_
  obtain ⟨r6, m6, h⟩ := h.bnd
  refine S.gsil 17 3 15 false rfl rfl rfl (lk 1 rfl rfl) (fun hB _ hF => .callQ ent208 cF (.c (ifT hB (lk 0 rfl rfl)) (V.sub.refl _) .nil) (C_rights_is (gd_get m6 hB))) ?_
  refine S.gsil 18 3 15 false rfl rfl rfl (lk 2 rfl rfl) (fun hB _ hF => .not (ifT hB (lk 0 rfl rfl))) ?_
  refine S.sil 19 rfl rfl (fun _ hF => .pickOr (lk 3 rfl rfl) cB (fun h => ifT h (lk 0 rfl rfl))) ?_
  refine S.sil 20 rfl rfl (fun _ hF => .move (lk 0 rfl rfl)) ?_
  refine S.gsil 21 8 20 false rfl rfl rfl (lk 0 rfl rfl) (fun hB _ hF => .move (lk 13 rfl rfl)) ?_
  refine S.gsil 22 8 20 false rfl rfl rfl (lk 1 rfl rfl) (fun hB _ hF => .move (lk 15 rfl rfl)) ?_
  refine S.gsil 23 8 20 false rfl rfl rfl (lk 2 rfl rfl) (fun hB _ hF => .eql (ifT hB (lk 1 rfl rfl)) (ifT hB (lk 0 rfl rfl))) ?_
  refine S.sil 24 rfl rfl (fun _ hF => .pickOr (lk 3 rfl rfl) cB (fun h => ifT h (lk 0 rfl rfl))) ?_
  refine S.nil ?_
  refine thenQ_n ?_
  refine AWp.prune (.eq (lk 0 rfl rfl) rfl (.eq (lk 13 rfl rfl) rfl (.eq (lk 14 rfl rfl) rfl (.eq (lk 15 rfl rfl) rfl (.eq (lk 17 rfl rfl) rfl (.eq (lk 18 rfl rfl) rfl (.eq (lk 19 rfl rfl) rfl .nil))))))) ?_
  refine AWp.condM (lk 0 rfl rfl) h (fun c1 h => ?_) (fun c1 h => ?_)
  · skip
    refine AWp.seq ?_
    refine W.reg [0, 1, 2] rfl ?_
    obtain ⟨v7, ev7, h⟩ := h.nam
    refine S.sil 25 rfl rfl (fun _ hF => .nv (.nv (v2 := E_TRights (⟨(default : Vector Int 16), (default : Vector Int 16), (default : Vector (Vector Int 16) 16)⟩ : TRights)) (.buildStW lay35 zv35 rfl .nil) rfl) (congrArg E_TRights ev7.symm)) ?_
    refine S.effN rfl rfl (.nf (H2 := [.cells (E_TRights a1), .cells (E_TRights v7)]) (.storeP sz35 (lk 3 rfl rfl) (lk 0 rfl rfl) rfl (.refl _) rfl .nil (by first | rfl | omega) .nil (ty_TRights.fl v7) (ty_TRights.fl (default : TRights)) rfl) rfl rfl) trivial ?_
    refine S.sil 9 rfl rfl (fun _ hF => .assign cI) ?_
    refine S.nil ?_
    refine thenQ_n ?_
    refine AWp.ret ?_
    refine thenQ_r ?_
    refine endF_wk (Wk.freeze 1 rfl rfl (.same (lk 0 rfl rfl) (.same (lk 0 rfl rfl) (.cons (lk 4 rfl rfl) rfl (.ptr .nil (by first | rfl | omega)) .nil))) (.refl _)) ?_
    obtain rfl := h.ret
    exact endFN rfl (Wk.selS [] .nil rfl (SelE.leaf (lk 2 rfl rfl) rfl (.refl _) (fun m => (lt_cptr (ty_TRights.lt _ _))) (SelE.leaf (lk 0 rfl rfl) rfl (.refl _) (fun m => ((TyOk.int .i64).lt _ _)) .nil)) .nil) (.cons (.cellC sz35 ag35 (lk 0 rfl rfl) (ty_TRights.fl _) rfl) (.cons (.tmp (lk 1 rfl rfl) rfl) .nil)) rfl rfl rfl
  · skip
    refine AWp.skip ?_
    refine thenQ_n ?_
    refine AWp.seq ?_
    refine W.reg [0, 1, 2, 3, 4] rfl ?_
    refine S.qui 26 rfl rfl (fun _ => .loadP sz35 ag35 (lk 3 rfl rfl) rfl .nil (by first | rfl | omega) (ty_TRights.fl a1) rfl) ?_
    refine S.sil 27 rfl rfl (fun _ hF => .move (lk 5 rfl rfl)) ?_
    refine S.sil 28 rfl rfl (fun _ hF => .move (lk 8 rfl rfl)) ?_
    obtain ⟨r8, m8, h⟩ := h.bnd
    refine S.sil 29 rfl rfl (fun _ hF => .callQ ent205 cF (.c (lk 2 rfl rfl) (V.sub.refl _) (.c (lk 1 rfl rfl) (V.sub.refl _) (.c (lk 0 rfl rfl) (V.sub.refl _) .nil))) (C_rights_enough m8)) ?_
    refine S.sil 10 rfl rfl (fun _ hF => .assign (lk 0 rfl rfl)) ?_
    refine S.nil ?_
    refine thenQ_n ?_
    refine AWp.seq ?_
    refine W.reg [0] rfl ?_
    refine S.eff 11 rfl rfl (.nf (v2 := .ptr 2 [] 0) (H2 := [.cells (E_TRights a1), .cells (E_TRights (default : TRights)), .cells (E_A16_i64 (default : Vector Int 16))]) (.alloc zv32) rfl rfl) trivial ?_
    refine S.nil ?_
    refine thenQ_n ?_
    refine AWp.seq ?_
    refine AWp.seq ?_
    refine W.reg [0, 1] rfl ?_
    refine S.sil 30 rfl rfl (fun _ hF => .move (lk 1 rfl rfl)) ?_
    refine S.sil 31 rfl rfl (fun _ hF => .eql (lk 0 rfl rfl) cI) ?_
    refine S.nil ?_
    refine thenQ_n ?_
    refine AWp.condM (lk 0 rfl rfl) h (fun c2 h => ?_) (fun c2 h => ?_)
    · skip
      refine W.reg [0, 1, 2, 3, 4, 5, 6, 7, 8, 9, 10, 11] rfl ?_
      refine S.sil 33 rfl rfl (fun _ hF => .move (lk 12 rfl rfl)) ?_
      refine S.sil 34 rfl rfl (fun _ hF => .fieldAddr lay35 rfl rfl (lk 12 rfl rfl)) ?_
      obtain ⟨k9, m9, h⟩ := h.bnd
      refine S.sil 35 rfl rfl (fun _ hF => .ixP arr33 (lk 0 rfl rfl) (lk 1 rfl rfl) m9) ?_
      obtain ⟨v10, ev10, h⟩ := h.nam
      refine S.qui 36 rfl rfl (fun _ => .nv (.loadP sz32 ag32 (lk 0 rfl rfl) rfl (.st rfl (flL_c (ty_A16_i64.fl a1.Given) (flL_c (ty_A16_i64.fl a1.Used) flL_nil)) (.vc k9 .nil)) (by first | rfl | omega) (ty_A16_i64.fl (a1.Moved.get k9)) rfl) (congrArg E_A16_i64 ev10.symm)) ?_
      refine S.sil 37 rfl rfl (fun _ hF => .move (lk 17 rfl rfl)) ?_
      refine S.sil 38 rfl rfl (fun _ hF => .move (lk 19 rfl rfl)) ?_
      obtain ⟨r11, m11, h⟩ := h.bnd
      refine S.sil 39 rfl rfl (fun _ hF => .callQ ent206 cF (.c (lk 2 rfl rfl) (V.sub.refl _) (.c (lk 1 rfl rfl) (V.sub.refl _) (.c (lk 0 rfl rfl) (V.sub.refl _) .nil))) (C_vec_Grow m11)) ?_
      refine S.sil 32 rfl rfl (fun _ hF => .move (lk 0 rfl rfl)) ?_
      refine S.sil 40 rfl rfl (fun _ hF => .extract (lk 0 rfl rfl) rfl) ?_
      refine S.sil 41 rfl rfl (fun _ hF => .extract (lk 1 rfl rfl) rfl) ?_
      refine S.effN rfl rfl (.nf (H2 := [.cells (E_TRights a1), .cells (E_TRights (default : TRights)), .cells (E_A16_i64 r11.1)]) (.storeP sz32 (lk 12 rfl rfl) (lk 1 rfl rfl) rfl (.refl _) rfl .nil (by first | rfl | omega) .nil (ty_A16_i64.fl r11.1) (ty_A16_i64.fl (default : Vector Int 16)) rfl) rfl rfl) trivial ?_
      refine S.sil 10 rfl rfl (fun _ hF => .assign (lk 0 rfl rfl)) ?_
      refine S.nil ?_
      refine thenQ_n ?_
      refine AWp.prune (.eq (lk 0 rfl rfl) rfl (.eq (lk 13 rfl rfl) rfl (.eq (lk 20 rfl rfl) rfl (.eq (lk 21 rfl rfl) rfl (.eq (lk 22 rfl rfl) rfl (.eq (lk 23 rfl rfl) rfl .nil)))))) ?_
      refine AWp.seq ?_
      refine AWp.seq ?_
      refine W.reg [0, 1] rfl ?_
      refine S.sil 42 rfl rfl (fun _ hF => .move (lk 0 rfl rfl)) ?_
      refine S.sil 43 rfl rfl (fun _ hF => .neq (lk 0 rfl rfl) cI) ?_
      refine S.nil ?_
      refine thenQ_n ?_
      refine AWp.condM (lk 0 rfl rfl) h (fun c3 h => ?_) (fun c3 h => ?_)
      · skip
        refine AWp.seq ?_
        refine W.reg [0, 1, 2, 3] rfl ?_
        obtain ⟨v12, ev12, h⟩ := h.nam
        refine S.sil 44 rfl rfl (fun _ hF => .nv (.nv (v2 := E_TRights (⟨(default : Vector Int 16), (default : Vector Int 16), (default : Vector (Vector Int 16) 16)⟩ : TRights)) (.buildStW lay35 zv35 rfl .nil) rfl) (congrArg E_TRights ev12.symm)) ?_
        refine S.sil 45 rfl rfl (fun _ hF => .move (lk 3 rfl rfl)) ?_
        refine S.effN rfl rfl (.nf (H2 := [.cells (E_TRights a1), .cells (E_TRights v12), .cells (E_A16_i64 r11.1)]) (.storeP sz35 (lk 7 rfl rfl) (lk 1 rfl rfl) rfl (.refl _) rfl .nil (by first | rfl | omega) .nil (ty_TRights.fl v12) (ty_TRights.fl (default : TRights)) rfl) rfl rfl) trivial ?_
        refine S.sil 9 rfl rfl (fun _ hF => .assign (lk 0 rfl rfl)) ?_
        refine S.nil ?_
        refine thenQ_n ?_
        refine AWp.ret ?_
        refine thenQ_r ?_
        refine endF_wk (Wk.freeze 1 rfl rfl (.same (lk 0 rfl rfl) (.same (lk 0 rfl rfl) (.cons (lk 8 rfl rfl) rfl (.ptr .nil (by first | rfl | omega)) .nil))) (.refl _)) ?_
        obtain rfl := h.ret
        exact endFN rfl (Wk.selS [] .nil rfl (SelE.leaf (lk 2 rfl rfl) rfl (.refl _) (fun m => (lt_cptr (ty_TRights.lt _ _))) (SelE.leaf (lk 0 rfl rfl) rfl (.refl _) (fun m => ((TyOk.int .i64).lt _ _)) .nil)) .nil) (.cons (.cellC sz35 ag35 (lk 0 rfl rfl) (ty_TRights.fl _) rfl) (.cons (.tmp (lk 1 rfl rfl) rfl) .nil)) rfl rfl rfl
      · skip
        refine AWp.skip ?_
        refine thenQ_n ?_
        refine AWp.seq ?_
        refine W.reg [0, 1, 2, 3, 4] rfl ?_
        refine S.sil 46 rfl rfl (fun _ hF => .move (lk 7 rfl rfl)) ?_
        refine S.qui 47 rfl rfl (fun _ => .loadP sz32 ag32 (lk 4 rfl rfl) rfl .nil (by first | rfl | omega) (ty_A16_i64.fl r11.1) rfl) ?_
        refine S.sil 48 rfl rfl (fun _ hF => .fieldAddr lay35 rfl rfl (lk 8 rfl rfl)) ?_
        obtain ⟨k13, m13, h⟩ := h.bnd
        refine S.sil 49 rfl rfl (fun _ hF => .ixP arr33 (lk 0 rfl rfl) (lk 2 rfl rfl) m13) ?_
        obtain ⟨v14, ev14, h⟩ := h.nam
        refine S.effN rfl rfl (.nf (H2 := [.cells (E_TRights v14), .cells (E_TRights (default : TRights)), .cells (E_A16_i64 r11.1)]) (.storeP sz32 (lk 0 rfl rfl) (lk 2 rfl rfl) rfl (.refl _) rfl (.st rfl (flL_c (ty_A16_i64.fl a1.Given) (flL_c (ty_A16_i64.fl a1.Used) flL_nil)) (.vc k13 .nil)) (by first | rfl | omega) (.st rfl (.vc r11.1 k13 .nil) rfl) (ty_A16_i64.fl r11.1) (ty_A16_i64.fl (a1.Moved.get k13)) (congrArg (fun z => ([AObj.cells (E_TRights z), .cells (E_TRights (default : TRights)), .cells (E_A16_i64 r11.1)] : List AObj)) ev14.symm)) rfl rfl) trivial ?_
        refine S.nil ?_
        refine thenQ_n ?_
        refine AWp.seq ?_
        refine W.reg [0, 1, 2] rfl ?_
        refine S.qui 50 rfl rfl (fun _ => .loadP sz35 ag35 (lk 10 rfl rfl) rfl .nil (by first | rfl | omega) (ty_TRights.fl v14) rfl) ?_
        refine S.effN rfl rfl (.nf (H2 := [.cells (E_TRights v14), .cells (E_TRights v14), .cells (E_A16_i64 r11.1)]) (.storeP sz35 (lk 10 rfl rfl) (lk 0 rfl rfl) rfl (.refl _) rfl .nil (by first | rfl | omega) .nil (ty_TRights.fl v14) (ty_TRights.fl (default : TRights)) rfl) rfl rfl) trivial ?_
        refine S.sil 9 rfl rfl (fun _ hF => .assign cI) ?_
        refine S.nil ?_
        refine thenQ_n ?_
        refine AWp.prune (.eq (lk 0 rfl rfl) rfl (.eq (lk 11 rfl rfl) rfl .nil)) ?_
        refine AWp.ret ?_
        refine endF_wk (Wk.freeze 1 rfl rfl (.same (lk 0 rfl rfl) (.cons (lk 1 rfl rfl) rfl (.ptr .nil (by first | rfl | omega)) .nil)) (.refl _)) ?_
        obtain rfl := h.ret
        exact endFN rfl (Wk.selS [] .nil rfl (SelE.leaf (lk 1 rfl rfl) rfl (.refl _) (fun m => (lt_cptr (ty_TRights.lt _ _))) (SelE.leaf (lk 0 rfl rfl) rfl (.refl _) (fun m => ((TyOk.int .i64).lt _ _)) .nil)) .nil) (.cons (.cellC sz35 ag35 (lk 0 rfl rfl) (ty_TRights.fl _) rfl) (.cons (.tmp (lk 1 rfl rfl) rfl) .nil)) rfl rfl rfl
    · skip
      refine AWp.skip ?_
      refine thenQ_n ?_
      refine AWp.seq ?_
      refine AWp.seq ?_
      refine W.reg [0, 1] rfl ?_
      refine S.sil 42 rfl rfl (fun _ hF => .move (lk 3 rfl rfl)) ?_
      refine S.sil 43 rfl rfl (fun _ hF => .neq (lk 0 rfl rfl) cI) ?_
      refine S.nil ?_
      refine thenQ_n ?_
      refine AWp.prune (.eq (lk 0 rfl rfl) rfl (.eq (lk 4 rfl rfl) rfl (.eq (lk 5 rfl rfl) rfl (.eq (lk 11 rfl rfl) rfl (.eq (lk 12 rfl rfl) rfl (.eq (lk 13 rfl rfl) rfl (.eq (lk 14 rfl rfl) rfl .nil))))))) ?_
      refine AWp.condM (lk 0 rfl rfl) h (fun c4 h => ?_) (fun c4 h => ?_)
      · skip
        refine AWp.seq ?_
        refine W.reg [0, 1, 2, 3] rfl ?_
        obtain ⟨v15, ev15, h⟩ := h.nam
        refine S.sil 44 rfl rfl (fun _ hF => .nv (.nv (v2 := E_TRights (⟨(default : Vector Int 16), (default : Vector Int 16), (default : Vector (Vector Int 16) 16)⟩ : TRights)) (.buildStW lay35 zv35 rfl .nil) rfl) (congrArg E_TRights ev15.symm)) ?_
        refine S.sil 45 rfl rfl (fun _ hF => .move (lk 3 rfl rfl)) ?_
        refine S.effN rfl rfl (.nf (H2 := [.cells (E_TRights a1), .cells (E_TRights v15), .cells (E_A16_i64 (default : Vector Int 16))]) (.storeP sz35 (lk 6 rfl rfl) (lk 1 rfl rfl) rfl (.refl _) rfl .nil (by first | rfl | omega) .nil (ty_TRights.fl v15) (ty_TRights.fl (default : TRights)) rfl) rfl rfl) trivial ?_
        refine S.sil 9 rfl rfl (fun _ hF => .assign (lk 0 rfl rfl)) ?_
        refine S.nil ?_
        refine thenQ_n ?_
        refine AWp.ret ?_
        refine thenQ_r ?_
        refine endF_wk (Wk.freeze 1 rfl rfl (.same (lk 0 rfl rfl) (.same (lk 0 rfl rfl) (.cons (lk 7 rfl rfl) rfl (.ptr .nil (by first | rfl | omega)) .nil))) (.refl _)) ?_
        obtain rfl := h.ret
        exact endFN rfl (Wk.selS [] .nil rfl (SelE.leaf (lk 2 rfl rfl) rfl (.refl _) (fun m => (lt_cptr (ty_TRights.lt _ _))) (SelE.leaf (lk 0 rfl rfl) rfl (.refl _) (fun m => ((TyOk.int .i64).lt _ _)) .nil)) .nil) (.cons (.cellC sz35 ag35 (lk 0 rfl rfl) (ty_TRights.fl _) rfl) (.cons (.tmp (lk 1 rfl rfl) rfl) .nil)) rfl rfl rfl
      · skip
        refine AWp.skip ?_
        refine thenQ_n ?_
        refine AWp.seq ?_
        refine W.reg [0, 1, 2, 3, 4] rfl ?_
        refine S.sil 46 rfl rfl (fun _ hF => .move (lk 6 rfl rfl)) ?_
        refine S.qui 47 rfl rfl (fun _ => .loadP sz32 ag32 (lk 2 rfl rfl) rfl .nil (by first | rfl | omega) (ty_A16_i64.fl (default : Vector Int 16)) rfl) ?_
        refine S.sil 48 rfl rfl (fun _ hF => .fieldAddr lay35 rfl rfl (lk 7 rfl rfl)) ?_
        obtain ⟨k16, m16, h⟩ := h.bnd
        refine S.sil 49 rfl rfl (fun _ hF => .ixP arr33 (lk 0 rfl rfl) (lk 2 rfl rfl) m16) ?_
        obtain ⟨v17, ev17, h⟩ := h.nam
        refine S.effN rfl rfl (.nf (H2 := [.cells (E_TRights v17), .cells (E_TRights (default : TRights)), .cells (E_A16_i64 (default : Vector Int 16))]) (.storeP sz32 (lk 0 rfl rfl) (lk 2 rfl rfl) rfl (.refl _) rfl (.st rfl (flL_c (ty_A16_i64.fl a1.Given) (flL_c (ty_A16_i64.fl a1.Used) flL_nil)) (.vc k16 .nil)) (by first | rfl | omega) (.st rfl (.vc (default : Vector Int 16) k16 .nil) rfl) (ty_A16_i64.fl (default : Vector Int 16)) (ty_A16_i64.fl (a1.Moved.get k16)) (congrArg (fun z => ([AObj.cells (E_TRights z), .cells (E_TRights (default : TRights)), .cells (E_A16_i64 (default : Vector Int 16))] : List AObj)) ev17.symm)) rfl rfl) trivial ?_
        refine S.nil ?_
        refine thenQ_n ?_
        refine AWp.seq ?_
        refine W.reg [0, 1, 2] rfl ?_
        refine S.qui 50 rfl rfl (fun _ => .loadP sz35 ag35 (lk 9 rfl rfl) rfl .nil (by first | rfl | omega) (ty_TRights.fl v17) rfl) ?_
        refine S.effN rfl rfl (.nf (H2 := [.cells (E_TRights v17), .cells (E_TRights v17), .cells (E_A16_i64 (default : Vector Int 16))]) (.storeP sz35 (lk 9 rfl rfl) (lk 0 rfl rfl) rfl (.refl _) rfl .nil (by first | rfl | omega) .nil (ty_TRights.fl v17) (ty_TRights.fl (default : TRights)) rfl) rfl rfl) trivial ?_
        refine S.sil 9 rfl rfl (fun _ hF => .assign cI) ?_
        refine S.nil ?_
        refine thenQ_n ?_
        refine AWp.prune (.eq (lk 0 rfl rfl) rfl (.eq (lk 10 rfl rfl) rfl .nil)) ?_
        refine AWp.ret ?_
        refine endF_wk (Wk.freeze 1 rfl rfl (.same (lk 0 rfl rfl) (.cons (lk 1 rfl rfl) rfl (.ptr .nil (by first | rfl | omega)) .nil)) (.refl _)) ?_
        obtain rfl := h.ret
        exact endFN rfl (Wk.selS [] .nil rfl (SelE.leaf (lk 1 rfl rfl) rfl (.refl _) (fun m => (lt_cptr (ty_TRights.lt _ _))) (SelE.leaf (lk 0 rfl rfl) rfl (.refl _) (fun m => ((TyOk.int .i64).lt _ _)) .nil)) .nil) (.cons (.cellC sz35 ag35 (lk 0 rfl rfl) (ty_TRights.fl _) rfl) (.cons (.tmp (lk 1 rfl rfl) rfl) .nil)) rfl rfl rfl
theorem C_counter_Hand_1 {a1 : Int} {a2 : Int} {a3 : Int} {b4 : TCounter} {r : TRights × Int × TCounter} (h : counter_Hand_1 a1 a2 a3 b4 = some r) : CallSpec Pg 159 [.ptr 0 [] 0, .cptr ((V.int .i64) a1), .cptr ((V.int .i64) a2), .cptr ((V.int .i64) a3)] [.cells (E_TCounter b4)] fun o H' => o = .ret (.tup [E_TRights r.1, (V.int .i64) r.2.1]) ∧ H' = [.cells (E_TCounter r.2.2)] := by
  refine CallSpec.of_bodyF 14 1 fn159 rfl rfl rfl (Nat.le_of_ble_eq_true rfl) ?_
  replace h := Ok.of h
  unfold counter_Hand_1 at h
  refine AWp.seq ?_
  refine W.reg [0, 1] rfl ?_
  refine S.eff 4 rfl rfl (.nf (v2 := .ptr 1 [] 0) (H2 := [.cells (E_TCounter b4), .cells (E_TRights (default : TRights))]) (.alloc zv35) rfl rfl) trivial ?_
  refine S.sil 5 rfl rfl (fun _ hF => .assign cI) ?_
  refine S.nil ?_
  refine thenQ_n ?_
  refine AWp.seq ?_
  refine W.reg [0, 1, 2, 3, 4, 5, 6, 7, 8, 9] rfl ?_
  refine S.sil 6 rfl rfl (fun _ hF => .fieldAddr lay37 rfl rfl (lk 2 rfl rfl)) ?_
  refine S.qui 7 rfl rfl (fun _ => .loadP sz35 ag35 (lk 0 rfl rfl) rfl (.st rfl (flL_c (show flen _ = 1 from rfl) (flL_c (show flen _ = 1 from rfl) (flL_c (show flen _ = 1 from rfl) flL_nil))) .nil) (by first | rfl | omega) (ty_TRights.fl b4.Down) rfl) ?_
  refine S.sil 8 rfl rfl (fun _ hF => .loadC sz3 ag3 (lk 5 rfl rfl) rfl rfl) ?_
  refine S.sil 9 rfl rfl (fun _ hF => .loadC sz3 ag3 (lk 7 rfl rfl) rfl rfl) ?_
  refine S.sil 10 rfl rfl (fun _ hF => .loadC sz3 ag3 (lk 9 rfl rfl) rfl rfl) ?_
  obtain ⟨r5, m5, h⟩ := h.bnd
  refine S.sil 11 rfl rfl (fun _ hF => .callQ ent160 cF (.c (lk 3 rfl rfl) (V.sub.refl _) (.c (lk 2 rfl rfl) (V.sub.refl _) (.c (lk 1 rfl rfl) (V.sub.refl _) (.c (lk 0 rfl rfl) (V.sub.refl _) .nil)))) (C_rights_Move m5)) ?_
  refine S.sil 12 rfl rfl (fun _ hF => .extract (lk 0 rfl rfl) rfl) ?_
  refine S.sil 13 rfl rfl (fun _ hF => .extract (lk 1 rfl rfl) rfl) ?_
  refine S.effN rfl rfl (.nf (H2 := [.cells (E_TCounter b4), .cells (E_TRights r5.1)]) (.storeP sz35 (lk 9 rfl rfl) (lk 1 rfl rfl) rfl (.refl _) rfl .nil (by first | rfl | omega) .nil (ty_TRights.fl r5.1) (ty_TRights.fl (default : TRights)) rfl) rfl rfl) trivial ?_
  refine S.sil 5 rfl rfl (fun _ hF => .assign (lk 0 rfl rfl)) ?_
  refine S.nil ?_
  refine thenQ_n ?_
  refine AWp.prune (.eq (lk 0 rfl rfl) rfl (.eq (lk 10 rfl rfl) rfl .nil)) ?_
  refine AWp.ret ?_
  refine endF_wk (Wk.freeze 1 rfl rfl (.same (lk 0 rfl rfl) (.cons (lk 1 rfl rfl) rfl (.ptr .nil (by first | rfl | omega)) .nil)) (.refl _)) ?_
  obtain rfl := h.ret
  exact endFN rfl (Wk.selS [0] (by decide) rfl (SelE.leaf (lk 1 rfl rfl) rfl (.refl _) (fun m => (lt_cptr (ty_TRights.lt _ _))) (SelE.leaf (lk 0 rfl rfl) rfl (.refl _) (fun m => ((TyOk.int .i64).lt _ _)) .nil)) (.cons (lt_cells (ty_TCounter.lt _ _)) rfl (RSub.trans (.refl _) (.eq (ty_TCounter.cl _ _).symm)) .nil)) (.cons (.cellC sz35 ag35 (lk 0 rfl rfl) (ty_TRights.fl _) rfl) (.cons (.tmp (lk 1 rfl rfl) rfl) .nil)) rfl rfl rfl
end Go.Av
