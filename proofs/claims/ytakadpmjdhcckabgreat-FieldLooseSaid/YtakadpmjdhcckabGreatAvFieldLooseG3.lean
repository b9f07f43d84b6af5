/- Each function tells what its mirror tells. -/
import Derived.Test.YtakadpmjdhcckabGreatAvFieldLooseG2
import Derived.Test.YtakadpmjdhcckabGreatProg
import Derived.KernelRfl
namespace Go.Av
set_option linter.unusedSectionVars false
open Go.Proofs
set_option linter.unusedVariables false
set_option linter.unusedSimpArgs false
set_option maxHeartbeats 4000000
set_option maxRecDepth 10000
theorem C_counter_Hand_2 {a1 : Int} {a2 : Int} {a3 : Int} {b4 : TCounter} {r : TRights × Int × TCounter} (h : counter_Hand_2 a1 a2 a3 b4 = some r) : CallSpec Pg 161 [.ptr 0 [] 0, .cptr ((V.int .i64) a1), .cptr ((V.int .i64) a2), .cptr ((V.int .i64) a3)] [.cells (E_TCounter b4)] fun o H' => o = .ret (.tup [E_TRights r.1, (V.int .i64) r.2.1]) ∧ H' = [.cells (E_TCounter r.2.2)] := by
  refine CallSpec.of_bodyF 14 1 fn161 rfl rfl rfl (Nat.le_of_ble_eq_true rfl) ?_
  replace h := Ok.of h
  unfold counter_Hand_2 at h
  refine AWp.seq ?_
  refine W.reg [0, 1] rfl ?_
  refine S.eff 4 rfl rfl (.nf (v2 := .ptr 1 [] 0) (H2 := [.cells (E_TCounter b4), .cells (E_TRights (default : TRights))]) (.alloc zv35) rfl rfl) trivial ?_
  refine S.sil 5 rfl rfl (fun _ hF => .assign cI) ?_
  refine S.nil ?_
  refine thenQ_n ?_
  refine AWp.seq ?_
  refine W.reg [0, 1, 2, 3, 4, 5, 6, 7, 8, 9] rfl ?_
  refine S.sil 6 rfl rfl (fun _ hF => .fieldAddr lay37 rfl rfl (lk 2 rfl rfl)) ?_
  refine S.qui 7 rfl rfl (fun _ => .loadP sz35 ag35 (lk 0 rfl rfl) rfl (.st rfl (flL_c (show flen _ = 1 from rfl) (flL_c (show flen _ = 1 from rfl) (flL_c (show flen _ = 1 from rfl) (flL_c (ty_TRights.fl b4.Down) flL_nil)))) .nil) (by first | rfl | omega) (ty_TRights.fl b4.Up) rfl) ?_
  refine S.sil 8 rfl rfl (fun _ hF => .loadC sz3 ag3 (lk 5 rfl rfl) rfl rfl) ?_
  refine S.sil 9 rfl rfl (fun _ hF => .loadC sz3 ag3 (lk 7 rfl rfl) rfl rfl) ?_
  refine S.sil 10 rfl rfl (fun _ hF => .loadC sz3 ag3 (lk 9 rfl rfl) rfl rfl) ?_
  obtain ⟨r5, m5, h⟩ := h.bnd
  refine S.sil 11 rfl rfl (fun _ hF => .callQ ent160 cF (.c (lk 3 rfl rfl) (V.sub.refl _) (.c (lk 2 rfl rfl) (V.sub.refl _) (.c (lk 1 rfl rfl) (V.sub.refl _) (.c (lk 0 rfl rfl) (V.sub.refl _) .nil)))) (C_rights_Move m5)) ?_
  refine S.sil 12 rfl rfl (fun _ hF => .extract (lk 0 rfl rfl) rfl) ?_
  refine S.sil 13 rfl rfl (fun _ hF => .extract (lk 1 rfl rfl) rfl) ?_
  refine S.effN rfl rfl (.nf (H2 := [.cells (E_TCounter b4), .cells (E_TRights r5.1)]) (.storeP sz35 (lk 9 rfl rfl) (lk 1 rfl rfl) rfl (.refl _) rfl .nil (by first | rfl | omega) .nil (ty_TRights.fl r5.1) (ty_TRights.fl (default : TRights)) rfl) rfl rfl) trivial ?_
  refine S.sil 5 rfl rfl (fun _ hF => .assign (lk 0 rfl rfl)) ?_
  refine S.nil ?_
  refine thenQ_n ?_
  refine AWp.prune (.eq (lk 0 rfl rfl) rfl (.eq (lk 10 rfl rfl) rfl .nil)) ?_
  refine AWp.ret ?_
  refine endF_wk (Wk.freeze 1 rfl rfl (.same (lk 0 rfl rfl) (.cons (lk 1 rfl rfl) rfl (.ptr .nil (by first | rfl | omega)) .nil)) (.refl _)) ?_
  obtain rfl := h.ret
  exact endFN rfl (Wk.selS [0] (by decide) rfl (SelE.leaf (lk 1 rfl rfl) rfl (.refl _) (fun m => (lt_cptr (ty_TRights.lt _ _))) (SelE.leaf (lk 0 rfl rfl) rfl (.refl _) (fun m => ((TyOk.int .i64).lt _ _)) .nil)) (.cons (lt_cells (ty_TCounter.lt _ _)) rfl (RSub.trans (.refl _) (.eq (ty_TCounter.cl _ _).symm)) .nil)) (.cons (.cellC sz35 ag35 (lk 0 rfl rfl) (ty_TRights.fl _) rfl) (.cons (.tmp (lk 1 rfl rfl) rfl) .nil)) rfl rfl rfl
theorem C_counter_Hand_3 {a1 : TRights} {a2 : TRights} {b3 : TCounter} {r : TCounter} (h : counter_Hand_3 a1 a2 b3 = some r) : CallSpec Pg 162 [E_TRights a1, E_TRights a2, .ptr 0 [] 0] [.cells (E_TCounter b3)] fun o H' => o = .ret (.tup []) ∧ H' = [.cells (E_TCounter r)] := by
  refine CallSpec.of_bodyF 9 1 fn162 rfl rfl rfl (Nat.le_of_ble_eq_true rfl) ?_
  replace h := Ok.of h
  unfold counter_Hand_3 at h
  refine AWp.seq ?_
  refine W.reg [0, 1] rfl ?_
  refine S.eff 3 rfl rfl (.nf (v2 := .ptr 1 [] 0) (H2 := [.cells (E_TCounter b3), .cells (E_TRights a1)]) (.box (lk 0 rfl rfl) rfl) rfl rfl) trivial ?_
  refine S.eff 4 rfl rfl (.nf (v2 := .ptr 2 [] 0) (H2 := [.cells (E_TCounter b3), .cells (E_TRights a1), .cells (E_TRights a2)]) (.box (lk 2 rfl rfl) rfl) rfl rfl) trivial ?_
  refine S.nil ?_
  refine thenQ_n ?_
  refine AWp.wk (Wk.freeze 1 rfl rfl (.same (lk 0 rfl rfl) (.cons (lk 1 rfl rfl) rfl (.ptr .nil (by first | rfl | omega)) (.same (lk 4 rfl rfl) .nil))) (.refl _)) ?_
  refine AWp.wk (Wk.freeze 2 rfl rfl (.cons (lk 0 rfl rfl) rfl (.ptr .nil (by first | rfl | omega)) (.same (lk 1 rfl rfl) (.same (lk 2 rfl rfl) .nil))) (.refl _)) ?_
  refine W.regD [0, 1, 2, 3, 4, 5] mixed ?_
  refine S.sil 5 rfl rfl (fun _ hF => .loadC sz35 ag35 (lk 1 rfl rfl) (ty_TRights.fl a1) rfl) ?_
  refine S.sil 6 rfl rfl (fun _ hF => .loadC sz35 ag35 (lk 1 rfl rfl) (ty_TRights.fl a2) rfl) ?_
  refine S.sil 7 rfl rfl (fun _ hF => .fieldAddr lay37 rfl rfl (lk 4 rfl rfl)) ?_
  obtain ⟨v4, ev4, h⟩ := h.nam
  refine S.effN rfl rfl (.storeP sz35 (lk 0 rfl rfl) (lk 2 rfl rfl) rfl (.refl _) rfl (.st rfl (flL_c (show flen _ = 1 from rfl) (flL_c (show flen _ = 1 from rfl) (flL_c (show flen _ = 1 from rfl) flL_nil))) .nil) (by first | rfl | omega) (.st rfl .nil rfl) (ty_TRights.fl a1) (ty_TRights.fl b3.Down) (congrArg (fun z => ([AObj.cells (E_TCounter z), .dead, .dead] : List AObj)) ev4.symm)) trivial ?_
  refine S.sil 8 rfl rfl (fun _ hF => .fieldAddr lay37 rfl rfl (lk 5 rfl rfl)) ?_
  obtain ⟨v5, ev5, h⟩ := h.nam
  refine S.effN rfl rfl (.storeP sz35 (lk 0 rfl rfl) (lk 2 rfl rfl) rfl (.refl _) rfl (.st rfl (flL_c (show flen _ = 1 from rfl) (flL_c (show flen _ = 1 from rfl) (flL_c (show flen _ = 1 from rfl) (flL_c (ty_TRights.fl v4.Down) flL_nil)))) .nil) (by first | rfl | omega) (.st rfl .nil rfl) (ty_TRights.fl a2) (ty_TRights.fl v4.Up) (congrArg (fun z => ([AObj.cells (E_TCounter z), .dead, .dead] : List AObj)) ev5.symm)) trivial ?_
  refine S.nilD (by kernel_rfl) ?_
  refine endF_n ?_
  obtain rfl := h.ret
  exact endFN rfl (Wk.selS [0] (by decide) rfl .nil (.cons (lt_cells (ty_TCounter.lt _ _)) rfl (RSub.trans (.refl _) (.eq (ty_TCounter.cl _ _).symm)) .nil)) .nil rfl rfl rfl
theorem C_counter_both_Hand_1_Hand_2_Hand_3 {a1 : TCounter} {a2 : Int} {a3 : Int} {a4 : Int} {a5 : Int} {a6 : Int} {a7 : Int} {b8 : TCounter} {r : Int × TCounter} (h : counter_both_Hand_1_Hand_2_Hand_3 a1 a2 a3 a4 a5 a6 a7 b8 = some r) : CallSpec Pg 145 [E_TCounter a1, .fn 159 [] [.ptr 0 [] 0, .cptr ((V.int .i64) a2), .cptr ((V.int .i64) a3), .cptr ((V.int .i64) a4)], .fn 161 [] [.ptr 0 [] 0, .cptr ((V.int .i64) a5), .cptr ((V.int .i64) a6), .cptr ((V.int .i64) a7)], .fn 162 [] [.ptr 0 [] 0]] [.cells (E_TCounter b8)] fun o H' => o = .ret ((V.int .i64) r.1) ∧ H' = [.cells (E_TCounter r.2)] := by
  refine CallSpec.of_bodyF 32 1 fn145 rfl rfl rfl (Nat.le_of_ble_eq_true rfl) ?_
  replace h := Ok.of h
  unfold counter_both_Hand_1_Hand_2_Hand_3 at h
  refine AWp.seq ?_
  refine W.reg [0, 1] rfl ?_
  refine S.eff 4 rfl rfl (.nf (v2 := .ptr 1 [] 0) (H2 := [.cells (E_TCounter b8), .cells (E_TCounter a1)]) (.box (lk 0 rfl rfl) rfl) rfl rfl) trivial ?_
  refine S.sil 8 rfl rfl (fun _ hF => .assign cI) ?_
  refine S.nil ?_
  refine thenQ_n ?_
  refine AWp.wk (Wk.freeze 1 rfl rfl (.same (lk 0 rfl rfl) (.same (lk 3 rfl rfl) (.same (lk 4 rfl rfl) (.same (lk 5 rfl rfl) .nil)))) (.refl _)) ?_
  refine AWp.seq ?_
  refine W.reg [0, 1, 2, 3, 4, 5, 6, 7] rfl ?_
  refine S.sil 13 rfl rfl (fun _ hF => .move (lk 1 rfl rfl)) ?_
  obtain ⟨r9, m9, h⟩ := h.bnd
  refine S.eff 14 rfl rfl (.nf (v2 := .tup [E_TRights r9.1, (V.int .i64) r9.2.1]) (H2 := [.cells (E_TCounter r9.2.2), .dead]) (.callH ent159 (lk 0 rfl rfl) [0] (C_counter_Hand_1 m9) (by decide) (.cons (lt_cells (ty_TCounter.lt _ _)) rfl (RSub.trans (.refl _) (.eq (ty_TCounter.cl _ _).symm)) .nil) (ltL_c rfl (ltL_c (lt_cptr ((TyOk.int .i64).lt _ _)) (ltL_c (lt_cptr ((TyOk.int .i64).lt _ _)) (ltL_c (lt_cptr ((TyOk.int .i64).lt _ _)) ltL_nil)))) (.cons (subren rfl) (.cons (vsubr (V.sub.refl _) (lt_cptr ((TyOk.int .i64).lt _ _))) (.cons (vsubr (V.sub.refl _) (lt_cptr ((TyOk.int .i64).lt _ _))) (.cons (vsubr (V.sub.refl _) (lt_cptr ((TyOk.int .i64).lt _ _))) .nil)))) (ren_tup (renL_c (ty_TRights.cl _ _) (renL_c ((TyOk.int .i64).cl _ _) rfl))) (mapc (ren_cells (ty_TCounter.cl _ _)) rfl) rfl) rfl rfl) trivial ?_
  refine S.sil 12 rfl rfl (fun _ hF => .move (lk 0 rfl rfl)) ?_
  refine S.sil 15 rfl rfl (fun _ hF => .extract (lk 0 rfl rfl) rfl) ?_
  refine S.sil 16 rfl rfl (fun _ hF => .extract (lk 1 rfl rfl) rfl) ?_
  refine S.eff 9 rfl rfl (.nf (v2 := .ptr 2 [] 0) (H2 := [.cells (E_TCounter r9.2.2), .dead, .cells (E_TRights (default : TRights))]) (.alloc zv35) rfl rfl) trivial ?_
  refine S.effN rfl rfl (.nf (H2 := [.cells (E_TCounter r9.2.2), .dead, .cells (E_TRights r9.1)]) (.storeP sz35 (lk 0 rfl rfl) (lk 2 rfl rfl) rfl (.refl _) rfl .nil (by first | rfl | omega) .nil (ty_TRights.fl r9.1) (ty_TRights.fl (default : TRights)) rfl) rfl rfl) trivial ?_
  refine S.sil 10 rfl rfl (fun _ hF => .assign (lk 1 rfl rfl)) ?_
  refine S.nil ?_
  refine thenQ_n ?_
  refine AWp.wk (Wk.freeze 2 rfl rfl (.same (lk 0 rfl rfl) (.cons (lk 1 rfl rfl) rfl (.ptr .nil (by first | rfl | omega)) (.same (lk 7 rfl rfl) (.same (lk 9 rfl rfl) (.same (lk 10 rfl rfl) .nil))))) (.refl _)) ?_
  refine AWp.seq ?_
  refine AWp.seq ?_
  refine W.reg [0, 1] rfl ?_
  refine S.sil 17 rfl rfl (fun _ hF => .move (lk 0 rfl rfl)) ?_
  refine S.sil 18 rfl rfl (fun _ hF => .neq (lk 0 rfl rfl) cI) ?_
  refine S.nil ?_
  refine thenQ_n ?_
  refine AWp.condM (lk 0 rfl rfl) h (fun c1 h => ?_) (fun c1 h => ?_)
  · skip
    refine AWp.seq ?_
    refine W.reg [0, 1] rfl ?_
    refine S.sil 19 rfl rfl (fun _ hF => .move (lk 2 rfl rfl)) ?_
    refine S.sil 8 rfl rfl (fun _ hF => .assign (lk 0 rfl rfl)) ?_
    refine S.nil ?_
    refine thenQ_n ?_
    refine AWp.ret ?_
    refine thenQ_r ?_
    obtain rfl := h.ret
    exact endF1 rfl (Wk.selS [0] (by decide) rfl (SelE.leaf (lk 0 rfl rfl) rfl (.refl _) (fun m => ((TyOk.int .i64).lt _ _)) .nil) (.cons (lt_cells (ty_TCounter.lt _ _)) rfl (RSub.trans (.refl _) (.eq (ty_TCounter.cl _ _).symm)) .nil)) (.tmp (lk 0 rfl rfl) rfl) rfl rfl
  · skip
    refine AWp.skip ?_
    refine thenQ_n ?_
    refine AWp.seq ?_
    refine W.reg [0, 1, 2, 3, 4, 5, 6, 7] rfl ?_
    refine S.sil 21 rfl rfl (fun _ hF => .move (lk 5 rfl rfl)) ?_
    obtain ⟨r10, m10, h⟩ := h.bnd
    refine S.eff 22 rfl rfl (.nf (v2 := .tup [E_TRights r10.1, (V.int .i64) r10.2.1]) (H2 := [.cells (E_TCounter r10.2.2), .dead, .dead]) (.callH ent161 (lk 0 rfl rfl) [0] (C_counter_Hand_2 m10) (by decide) (.cons (lt_cells (ty_TCounter.lt _ _)) rfl (RSub.trans (.refl _) (.eq (ty_TCounter.cl _ _).symm)) .nil) (ltL_c rfl (ltL_c (lt_cptr ((TyOk.int .i64).lt _ _)) (ltL_c (lt_cptr ((TyOk.int .i64).lt _ _)) (ltL_c (lt_cptr ((TyOk.int .i64).lt _ _)) ltL_nil)))) (.cons (subren rfl) (.cons (vsubr (V.sub.refl _) (lt_cptr ((TyOk.int .i64).lt _ _))) (.cons (vsubr (V.sub.refl _) (lt_cptr ((TyOk.int .i64).lt _ _))) (.cons (vsubr (V.sub.refl _) (lt_cptr ((TyOk.int .i64).lt _ _))) .nil)))) (ren_tup (renL_c (ty_TRights.cl _ _) (renL_c ((TyOk.int .i64).cl _ _) rfl))) (mapc (ren_cells (ty_TCounter.cl _ _)) rfl) rfl) rfl rfl) trivial ?_
    refine S.sil 20 rfl rfl (fun _ hF => .move (lk 0 rfl rfl)) ?_
    refine S.sil 23 rfl rfl (fun _ hF => .extract (lk 0 rfl rfl) rfl) ?_
    refine S.sil 24 rfl rfl (fun _ hF => .extract (lk 1 rfl rfl) rfl) ?_
    refine S.eff 11 rfl rfl (.nf (v2 := .ptr 3 [] 0) (H2 := [.cells (E_TCounter r10.2.2), .dead, .dead, .cells (E_TRights (default : TRights))]) (.alloc zv35) rfl rfl) trivial ?_
    refine S.effN rfl rfl (.nf (H2 := [.cells (E_TCounter r10.2.2), .dead, .dead, .cells (E_TRights r10.1)]) (.storeP sz35 (lk 0 rfl rfl) (lk 2 rfl rfl) rfl (.refl _) rfl .nil (by first | rfl | omega) .nil (ty_TRights.fl r10.1) (ty_TRights.fl (default : TRights)) rfl) rfl rfl) trivial ?_
    refine S.sil 10 rfl rfl (fun _ hF => .assign (lk 1 rfl rfl)) ?_
    refine S.nil ?_
    refine thenQ_n ?_
    refine AWp.wk (Wk.freeze 3 rfl rfl (.same (lk 0 rfl rfl) (.cons (lk 1 rfl rfl) rfl (.ptr .nil (by first | rfl | omega)) (.same (lk 10 rfl rfl) (.same (lk 11 rfl rfl) (.same (lk 13 rfl rfl) .nil))))) (.refl _)) ?_
    refine AWp.seq ?_
    refine AWp.seq ?_
    refine W.reg [0, 1] rfl ?_
    refine S.sil 25 rfl rfl (fun _ hF => .move (lk 0 rfl rfl)) ?_
    refine S.sil 26 rfl rfl (fun _ hF => .eql (lk 0 rfl rfl) cI) ?_
    refine S.nil ?_
    refine thenQ_n ?_
    refine AWp.condM (lk 0 rfl rfl) h (fun c2 h => ?_) (fun c2 h => ?_)
    · skip
      refine W.reg [0, 1, 2, 3] rfl ?_
      refine S.sil 27 rfl rfl (fun _ hF => .move (lk 6 rfl rfl)) ?_
      refine S.sil 28 rfl rfl (fun _ hF => .loadC sz35 ag35 (lk 5 rfl rfl) (ty_TRights.fl r9.1) rfl) ?_
      refine S.sil 29 rfl rfl (fun _ hF => .loadC sz35 ag35 (lk 5 rfl rfl) (ty_TRights.fl r10.1) rfl) ?_
      obtain ⟨r11, m11, h⟩ := h.bnd
      refine S.eff 30 rfl rfl (.nf (H2 := [.cells (E_TCounter r11), .dead, .dead, .dead]) (.callH ent162 (lk 2 rfl rfl) [0] (C_counter_Hand_3 m11) (by decide) (.cons (lt_cells (ty_TCounter.lt _ _)) rfl (RSub.trans (.refl _) (.eq (ty_TCounter.cl _ _).symm)) .nil) (ltL_c (ty_TRights.lt _ _) (ltL_c (ty_TRights.lt _ _) (ltL_c rfl ltL_nil))) (.c (lk 1 rfl rfl) (vsubr (V.sub.refl _) (ty_TRights.lt _ _)) (.c (lk 0 rfl rfl) (vsubr (V.sub.refl _) (ty_TRights.lt _ _)) (.cons (subren rfl) .nil))) (ren_tup rfl) (mapc (ren_cells (ty_TCounter.cl _ _)) rfl) rfl) rfl rfl) trivial ?_
      refine S.nil ?_
      refine thenQ_n ?_
      refine AWp.seq ?_
      refine W.reg [0, 1] rfl ?_
      refine S.sil 31 rfl rfl (fun _ hF => .move (lk 6 rfl rfl)) ?_
      refine S.sil 8 rfl rfl (fun _ hF => .assign (lk 0 rfl rfl)) ?_
      refine S.nil ?_
      refine thenQ_n ?_
      refine AWp.prune (.eq (lk 0 rfl rfl) rfl .nil) ?_
      refine AWp.ret ?_
      obtain rfl := h.ret
      exact endF1 rfl (Wk.selS [0] (by decide) rfl (SelE.leaf (lk 0 rfl rfl) rfl (.refl _) (fun m => ((TyOk.int .i64).lt _ _)) .nil) (.cons (lt_cells (ty_TCounter.lt _ _)) rfl (RSub.trans (.refl _) (.eq (ty_TCounter.cl _ _).symm)) .nil)) (.tmp (lk 0 rfl rfl) rfl) rfl rfl
    · skip
      refine AWp.skip ?_
      refine thenQ_n ?_
      refine AWp.seq ?_
      refine W.reg [0, 1] rfl ?_
      refine S.sil 31 rfl rfl (fun _ hF => .move (lk 2 rfl rfl)) ?_
      refine S.sil 8 rfl rfl (fun _ hF => .assign (lk 0 rfl rfl)) ?_
      refine S.nil ?_
      refine thenQ_n ?_
      refine AWp.ret ?_
      obtain rfl := h.ret
      exact endF1 rfl (Wk.selS [0] (by decide) rfl (SelE.leaf (lk 0 rfl rfl) rfl (.refl _) (fun m => ((TyOk.int .i64).lt _ _)) .nil) (.cons (lt_cells (ty_TCounter.lt _ _)) rfl (RSub.trans (.refl _) (.eq (ty_TCounter.cl _ _).symm)) .nil)) (.tmp (lk 0 rfl rfl) rfl) rfl rfl
theorem C_counter_Hand {a1 : TCounter} {a2 : Int} {a3 : Int} {a4 : Int} {a5 : Int} {r : TCounter × Int} (h : counter_Hand a1 a2 a3 a4 a5 = some r) : PureC Pg 84 [E_TCounter a1, (V.int .i64) a2, (V.int .i64) a3, (V.int .i64) a4, (V.int .i64) a5] (.tup [E_TCounter r.1, (V.int .i64) r.2]) := by
  refine PureC.ofF (CallSpec.of_bodyF 23 0 fn84 rfl rfl rfl (Nat.le_of_ble_eq_true rfl) ?_) (ltL_c (ty_TCounter.lt _ _) (ltL_c ((TyOk.int .i64).lt _ _) (ltL_c ((TyOk.int .i64).lt _ _) (ltL_c ((TyOk.int .i64).lt _ _) (ltL_c ((TyOk.int .i64).lt _ _) ltL_nil))))) (lt_tup (ltL_c (ty_TCounter.lt _ _) (ltL_c ((TyOk.int .i64).lt _ _) ltL_nil)))
  replace h := Ok.of h
  unfold counter_Hand at h
  refine AWp.seq ?_
  refine W.reg [0, 1, 2, 3, 4, 5, 6] rfl ?_
  refine S.eff 5 rfl rfl (.nf (v2 := .ptr 0 [] 0) (H2 := [.cells (E_TCounter a1)]) (.box (lk 0 rfl rfl) rfl) rfl rfl) trivial ?_
  refine S.eff 6 rfl rfl (.nf (v2 := .ptr 1 [] 0) (H2 := [.cells (E_TCounter a1), .cells ((V.int .i64) a2)]) (.box (lk 2 rfl rfl) rfl) rfl rfl) trivial ?_
  refine S.eff 7 rfl rfl (.nf (v2 := .ptr 2 [] 0) (H2 := [.cells (E_TCounter a1), .cells ((V.int .i64) a2), .cells ((V.int .i64) a3)]) (.box (lk 4 rfl rfl) rfl) rfl rfl) trivial ?_
  refine S.eff 8 rfl rfl (.nf (v2 := .ptr 3 [] 0) (H2 := [.cells (E_TCounter a1), .cells ((V.int .i64) a2), .cells ((V.int .i64) a3), .cells ((V.int .i64) a4)]) (.box (lk 6 rfl rfl) rfl) rfl rfl) trivial ?_
  refine S.eff 9 rfl rfl (.nf (v2 := .ptr 4 [] 0) (H2 := [.cells (E_TCounter a1), .cells ((V.int .i64) a2), .cells ((V.int .i64) a3), .cells ((V.int .i64) a4), .cells ((V.int .i64) a5)]) (.box (lk 8 rfl rfl) rfl) rfl rfl) trivial ?_
  refine S.eff 10 rfl rfl (.nf (v2 := .ptr 5 [] 0) (H2 := [.cells (E_TCounter a1), .cells ((V.int .i64) a2), .cells ((V.int .i64) a3), .cells ((V.int .i64) a4), .cells ((V.int .i64) a5), .cells (E_TCounter (default : TCounter))]) (.alloc zv37) rfl rfl) trivial ?_
  refine S.sil 11 rfl rfl (fun _ hF => .assign cI) ?_
  refine S.nil ?_
  refine thenQ_n ?_
  refine AWp.wk (Wk.freeze 1 rfl rfl (.same (lk 0 rfl rfl) (.same (lk 1 rfl rfl) (.same (lk 2 rfl rfl) (.same (lk 3 rfl rfl) (.same (lk 4 rfl rfl) (.cons (lk 5 rfl rfl) rfl (.ptr .nil (by first | rfl | omega)) (.same (lk 6 rfl rfl) .nil))))))) (.refl _)) ?_
  refine AWp.wk (Wk.freeze 2 rfl rfl (.same (lk 0 rfl rfl) (.same (lk 1 rfl rfl) (.same (lk 2 rfl rfl) (.same (lk 3 rfl rfl) (.cons (lk 4 rfl rfl) rfl (.ptr .nil (by first | rfl | omega)) (.same (lk 5 rfl rfl) (.same (lk 6 rfl rfl) .nil))))))) (.refl _)) ?_
  refine AWp.wk (Wk.freeze 3 rfl rfl (.same (lk 0 rfl rfl) (.same (lk 1 rfl rfl) (.same (lk 2 rfl rfl) (.cons (lk 3 rfl rfl) rfl (.ptr .nil (by first | rfl | omega)) (.same (lk 4 rfl rfl) (.same (lk 5 rfl rfl) (.same (lk 6 rfl rfl) .nil))))))) (.refl _)) ?_
  refine AWp.wk (Wk.freeze 4 rfl rfl (.same (lk 0 rfl rfl) (.same (lk 1 rfl rfl) (.cons (lk 2 rfl rfl) rfl (.ptr .nil (by first | rfl | omega)) (.same (lk 3 rfl rfl) (.same (lk 4 rfl rfl) (.same (lk 5 rfl rfl) (.same (lk 6 rfl rfl) .nil))))))) (.refl _)) ?_
  refine AWp.seq ?_
  refine W.reg [0, 1, 2, 3, 4, 5] rfl ?_
  refine S.qui 13 rfl rfl (fun _ => .loadP sz37 ag37 (lk 6 rfl rfl) rfl .nil (by first | rfl | omega) (ty_TCounter.fl a1) rfl) ?_
  refine S.sil 14 rfl rfl (fun _ hF => .makeFunc rfl (mapE4 (lk 7 rfl rfl) (lk 6 rfl rfl) (lk 5 rfl rfl) (lk 4 rfl rfl)) rfl rfl) ?_
  refine S.sil 15 rfl rfl (fun _ hF => .makeFunc rfl (mapE4 (lk 8 rfl rfl) (lk 7 rfl rfl) (lk 6 rfl rfl) (lk 4 rfl rfl)) rfl rfl) ?_
  refine S.sil 16 rfl rfl (fun _ hF => .makeFunc rfl (mapE1 (lk 9 rfl rfl)) rfl rfl) ?_
  obtain ⟨r6, m6, h⟩ := h.bnd
  refine S.eff 17 rfl rfl (.nf (v2 := (V.int .i64) r6.1) (H2 := [.cells (E_TCounter r6.2), .dead, .dead, .dead, .dead, .cells (E_TCounter (default : TCounter))]) (.callH ent145 cF [0] (C_counter_both_Hand_1_Hand_2_Hand_3 m6) (by decide) (.cons (lt_cells (ty_TCounter.lt _ _)) rfl (RSub.trans (.refl _) (.eq (ty_TCounter.cl _ _).symm)) .nil) (ltL_c (ty_TCounter.lt _ _) (ltL_c (lt_fn ltL_nil (ltL_c rfl (ltL_c (lt_cptr ((TyOk.int .i64).lt _ _)) (ltL_c (lt_cptr ((TyOk.int .i64).lt _ _)) (ltL_c (lt_cptr ((TyOk.int .i64).lt _ _)) ltL_nil))))) (ltL_c (lt_fn ltL_nil (ltL_c rfl (ltL_c (lt_cptr ((TyOk.int .i64).lt _ _)) (ltL_c (lt_cptr ((TyOk.int .i64).lt _ _)) (ltL_c (lt_cptr ((TyOk.int .i64).lt _ _)) ltL_nil))))) (ltL_c (lt_fn ltL_nil (ltL_c rfl ltL_nil)) ltL_nil)))) (.c (lk 3 rfl rfl) (vsubr (V.sub.refl _) (ty_TCounter.lt _ _)) (.c (lk 2 rfl rfl) (subren (ren_fn rfl (renL_c rfl (renL_c (ren_cptr ((TyOk.int .i64).cl _ _)) (renL_c (ren_cptr ((TyOk.int .i64).cl _ _)) (renL_c (ren_cptr ((TyOk.int .i64).cl _ _)) rfl)))))) (.c (lk 1 rfl rfl) (subren (ren_fn rfl (renL_c rfl (renL_c (ren_cptr ((TyOk.int .i64).cl _ _)) (renL_c (ren_cptr ((TyOk.int .i64).cl _ _)) (renL_c (ren_cptr ((TyOk.int .i64).cl _ _)) rfl)))))) (.c (lk 0 rfl rfl) (subren (ren_fn rfl (renL_c rfl rfl))) .nil)))) ((TyOk.int .i64).cl _ _) (mapc (ren_cells (ty_TCounter.cl _ _)) rfl) rfl) rfl rfl) trivial ?_
  refine S.sil 12 rfl rfl (fun _ hF => .assign (lk 0 rfl rfl)) ?_
  refine S.nil ?_
  refine thenQ_n ?_
  refine AWp.seq ?_
  refine W.reg [0, 1, 2, 3, 4, 5, 6] rfl ?_
  refine S.qui 18 rfl rfl (fun _ => .loadP sz37 ag37 (lk 12 rfl rfl) rfl .nil (by first | rfl | omega) (ty_TCounter.fl r6.2) rfl) ?_
  refine S.sil 19 rfl rfl (fun _ hF => .move (lk 1 rfl rfl)) ?_
  obtain ⟨r7, m7, h⟩ := h.bnd
  refine S.sil 20 rfl rfl (fun _ hF => .callQ ent151 cF (.c (lk 1 rfl rfl) (V.sub.refl _) (.c (lk 0 rfl rfl) (V.sub.refl _) .nil)) (C_counter_done m7)) ?_
  refine S.sil 21 rfl rfl (fun _ hF => .extract (lk 0 rfl rfl) rfl) ?_
  refine S.sil 22 rfl rfl (fun _ hF => .extract (lk 1 rfl rfl) rfl) ?_
  refine S.effN rfl rfl (.nf (H2 := [.cells (E_TCounter r6.2), .dead, .dead, .dead, .dead, .cells (E_TCounter r7.1)]) (.storeP sz37 (lk 12 rfl rfl) (lk 1 rfl rfl) rfl (.refl _) rfl .nil (by first | rfl | omega) .nil (ty_TCounter.fl r7.1) (ty_TCounter.fl (default : TCounter)) rfl) rfl rfl) trivial ?_
  refine S.sil 11 rfl rfl (fun _ hF => .assign (lk 0 rfl rfl)) ?_
  refine S.nil ?_
  refine thenQ_n ?_
  refine AWp.prune (.eq (lk 0 rfl rfl) rfl (.eq (lk 13 rfl rfl) rfl .nil)) ?_
  refine AWp.ret ?_
  refine endF_wk (Wk.freeze 5 rfl rfl (.same (lk 0 rfl rfl) (.cons (lk 1 rfl rfl) rfl (.ptr .nil (by first | rfl | omega)) .nil)) (.refl _)) ?_
  obtain rfl := h.ret
  exact endFN rfl (Wk.selS [] .nil rfl (SelE.leaf (lk 1 rfl rfl) rfl (.refl _) (fun m => (lt_cptr (ty_TCounter.lt _ _))) (SelE.leaf (lk 0 rfl rfl) rfl (.refl _) (fun m => ((TyOk.int .i64).lt _ _)) .nil)) .nil) (.cons (.cellC sz37 ag37 (lk 0 rfl rfl) (ty_TCounter.fl _) rfl) (.cons (.tmp (lk 1 rfl rfl) rfl) .nil)) rfl rfl rfl
theorem C_field_Hand {a1 : TField} {a2 : Int} {a3 : Int} {a4 : Int} {a5 : Int} {r : TField × Int} (h : field_Hand a1 a2 a3 a4 a5 = some r) : PureC Pg 26 [E_TField a1, (V.int .i64) a2, (V.int .i64) a3, (V.int .i64) a4, (V.int .i64) a5] (.tup [E_TField r.1, (V.int .i64) r.2]) := by
  refine PureC.ofF (CallSpec.of_bodyF 39 0 fn26 rfl rfl rfl (Nat.le_of_ble_eq_true rfl) ?_) (ltL_c (ty_TField.lt _ _) (ltL_c ((TyOk.int .i64).lt _ _) (ltL_c ((TyOk.int .i64).lt _ _) (ltL_c ((TyOk.int .i64).lt _ _) (ltL_c ((TyOk.int .i64).lt _ _) ltL_nil))))) (lt_tup (ltL_c (ty_TField.lt _ _) (ltL_c ((TyOk.int .i64).lt _ _) ltL_nil)))
  replace h := Ok.of h
  unfold field_Hand at h
  refine AWp.seq ?_
  refine W.reg [0, 1, 2] rfl ?_
  refine S.eff 5 rfl rfl (.nf (v2 := .ptr 0 [] 0) (H2 := [.cells (E_TField a1)]) (.box (lk 0 rfl rfl) rfl) rfl rfl) trivial ?_
  refine S.eff 10 rfl rfl (.nf (v2 := .ptr 1 [] 0) (H2 := [.cells (E_TField a1), .cells (.st [V.str (default : ByteArray), (V.int .i64) 0, (V.int .i64) 0, E_TCounter (default : TCounter), E_TLock (default : TLock), .nils])]) (.alloc zv42) rfl rfl) trivial ?_
  refine S.sil 11 rfl rfl (fun _ hF => .assign cI) ?_
  refine S.nil ?_
  refine thenQ_n ?_
  refine AWp.wk (Wk.freeze 0 rfl rfl (.same (lk 0 rfl rfl) (.same (lk 1 rfl rfl) (.cons (lk 2 rfl rfl) rfl (.ptr .nil (by first | rfl | omega)) (.same (lk 4 rfl rfl) (.same (lk 5 rfl rfl) (.same (lk 6 rfl rfl) (.same (lk 7 rfl rfl) .nil))))))) (.refl _)) ?_
  refine AWp.seq ?_
  refine AWp.seq ?_
  refine W.reg [0, 1, 2, 3, 4] rfl ?_
  refine S.sil 15 rfl rfl (fun _ hF => .loadC sz42 ag42 (lk 2 rfl rfl) (ty_TField.fl a1) rfl) ?_
  refine S.sil 16 rfl rfl (fun _ hF => .move (lk 4 rfl rfl)) ?_
  refine S.sil 17 rfl rfl (fun _ hF => .move (lk 7 rfl rfl)) ?_
  obtain ⟨r6, m6, h⟩ := h.bnd
  refine S.sil 18 rfl rfl (fun _ hF => .callQ ent78 cF (.c (lk 2 rfl rfl) (V.sub.refl _) (.c (lk 1 rfl rfl) (V.sub.refl _) (.c (lk 0 rfl rfl) (V.sub.refl _) .nil))) (C_field_lacks m6)) ?_
  refine S.sil 12 rfl rfl (fun _ hF => .assign (lk 0 rfl rfl)) ?_
  refine S.nil ?_
  refine thenQ_n ?_
  refine AWp.seq ?_
  refine W.reg [0, 1] rfl ?_
  refine S.sil 19 rfl rfl (fun _ hF => .move (lk 0 rfl rfl)) ?_
  refine S.sil 20 rfl rfl (fun _ hF => .neq (lk 0 rfl rfl) cI) ?_
  refine S.nil ?_
  refine thenQ_n ?_
  refine AWp.condM (lk 0 rfl rfl) h (fun c1 h => ?_) (fun c1 h => ?_)
  · skip
    refine AWp.seq ?_
    refine W.reg [0, 1, 2, 3] rfl ?_
    obtain ⟨v7, ev7, h⟩ := h.nam
    refine S.sil 21 rfl rfl (fun _ hF => .nv (.vs (v := .st [V.str (default : ByteArray), (V.int .i64) 0, (V.int .i64) 0, E_TCounter (default : TCounter), E_TLock (default : TLock), .nils]) (v2 := E_TField (⟨(default : ByteArray), 0, 0, (default : TCounter), (default : TLock), ([] : List THold)⟩ : TField)) (.buildStW lay42 zv42 rfl .nil) rfl (.st (.cons (.refl _) (.cons (.refl _) (.cons (.refl _) (.cons (.refl _) (.cons (.refl _) (.cons (.nils_no _) .nil)))))))) (congrArg E_TField ev7.symm)) ?_
    refine S.sil 22 rfl rfl (fun _ hF => .move (lk 3 rfl rfl)) ?_
    refine S.effN rfl rfl (.nf (H2 := [.dead, .cells (E_TField v7)]) (.storeP sz42 (lk 10 rfl rfl) (lk 1 rfl rfl) rfl (.refl _) rfl .nil (by first | rfl | omega) .nil (ty_TField.fl v7) (fl_st (flL_c (show flen _ = 1 from rfl) (flL_c (show flen _ = 1 from rfl) (flL_c (show flen _ = 1 from rfl) (flL_c (ty_TCounter.fl (default : TCounter)) (flL_c (ty_TLock.fl (default : TLock)) (flL_c (show flen _ = 1 from rfl) flL_nil))))))) rfl) rfl rfl) trivial ?_
    refine S.sil 11 rfl rfl (fun _ hF => .assign (lk 0 rfl rfl)) ?_
    refine S.nil ?_
    refine thenQ_n ?_
    refine AWp.prune (.eq (lk 0 rfl rfl) rfl (.eq (lk 11 rfl rfl) rfl (.eq (lk 12 rfl rfl) rfl (.eq (lk 13 rfl rfl) rfl (.eq (lk 14 rfl rfl) rfl (.eq (lk 15 rfl rfl) rfl (.eq (lk 16 rfl rfl) rfl .nil))))))) ?_
    refine AWp.ret ?_
    refine thenQ_r ?_
    refine endF_wk (Wk.freeze 1 rfl rfl (.same (lk 0 rfl rfl) (.cons (lk 1 rfl rfl) rfl (.ptr .nil (by first | rfl | omega)) .nil)) (.refl _)) ?_
    obtain rfl := h.ret
    exact endFN rfl (Wk.selS [] .nil rfl (SelE.leaf (lk 1 rfl rfl) rfl (.refl _) (fun m => (lt_cptr (ty_TField.lt _ _))) (SelE.leaf (lk 0 rfl rfl) rfl (.refl _) (fun m => ((TyOk.int .i64).lt _ _)) .nil)) .nil) (.cons (.cellC sz42 ag42 (lk 0 rfl rfl) (ty_TField.fl _) rfl) (.cons (.tmp (lk 1 rfl rfl) rfl) .nil)) rfl rfl rfl
  · skip
    refine AWp.skip ?_
    refine thenQ_n ?_
    refine AWp.seq ?_
    refine W.reg [0, 1, 2, 3, 4, 5, 6, 7, 8, 9, 10, 11, 12] rfl ?_
    refine S.sil 24 rfl rfl (fun _ hF => .fieldAddrC lay42 rfl rfl (lk 9 rfl rfl) rfl (flL_c (show flen _ = 1 from rfl) (flL_c (show flen _ = 1 from rfl) (flL_c (show flen _ = 1 from rfl) flL_nil)))) ?_
    refine S.sil 25 rfl rfl (fun _ hF => .loadC sz37 ag37 (lk 0 rfl rfl) (ty_TCounter.fl a1.Counter) rfl) ?_
    refine S.sil 26 rfl rfl (fun _ hF => .move (lk 12 rfl rfl)) ?_
    refine S.sil 27 rfl rfl (fun _ hF => .move (lk 14 rfl rfl)) ?_
    refine S.sil 28 rfl rfl (fun _ hF => .move (lk 16 rfl rfl)) ?_
    refine S.sil 29 rfl rfl (fun _ hF => .move (lk 18 rfl rfl)) ?_
    obtain ⟨r8, m8, h⟩ := h.bnd
    refine S.sil 30 rfl rfl (fun _ hF => .callQ ent84 cF (.c (lk 4 rfl rfl) (V.sub.refl _) (.c (lk 3 rfl rfl) (V.sub.refl _) (.c (lk 2 rfl rfl) (V.sub.refl _) (.c (lk 1 rfl rfl) (V.sub.refl _) (.c (lk 0 rfl rfl) (V.sub.refl _) .nil))))) (C_counter_Hand m8)) ?_
    refine S.sil 23 rfl rfl (fun _ hF => .move (lk 0 rfl rfl)) ?_
    refine S.sil 31 rfl rfl (fun _ hF => .extract (lk 0 rfl rfl) rfl) ?_
    refine S.sil 32 rfl rfl (fun _ hF => .extract (lk 1 rfl rfl) rfl) ?_
    refine S.eff 13 rfl rfl (.nf (v2 := .ptr 2 [] 0) (H2 := [.dead, .cells (.st [V.str (default : ByteArray), (V.int .i64) 0, (V.int .i64) 0, E_TCounter (default : TCounter), E_TLock (default : TLock), .nils]), .cells (E_TCounter (default : TCounter))]) (.alloc zv37) rfl rfl) trivial ?_
    refine S.effN rfl rfl (.nf (H2 := [.dead, .cells (.st [V.str (default : ByteArray), (V.int .i64) 0, (V.int .i64) 0, E_TCounter (default : TCounter), E_TLock (default : TLock), .nils]), .cells (E_TCounter r8.1)]) (.storeP sz37 (lk 0 rfl rfl) (lk 2 rfl rfl) rfl (.refl _) rfl .nil (by first | rfl | omega) .nil (ty_TCounter.fl r8.1) (ty_TCounter.fl (default : TCounter)) rfl) rfl rfl) trivial ?_
    refine S.sil 14 rfl rfl (fun _ hF => .assign (lk 1 rfl rfl)) ?_
    refine S.nil ?_
    refine thenQ_n ?_
    refine AWp.wk (Wk.freeze 2 rfl rfl (.same (lk 0 rfl rfl) (.cons (lk 1 rfl rfl) rfl (.ptr .nil (by first | rfl | omega)) (.same (lk 19 rfl rfl) (.same (lk 20 rfl rfl) (.same (lk 21 rfl rfl) .nil))))) (.refl _)) ?_
    refine AWp.seq ?_
    refine W.reg [0, 1, 2, 3, 4, 5, 6, 7] rfl ?_
    refine S.sil 33 rfl rfl (fun _ hF => .loadC sz42 ag42 (lk 4 rfl rfl) (ty_TField.fl a1) rfl) ?_
    refine S.sil 34 rfl rfl (fun _ hF => .loadC sz37 ag37 (lk 2 rfl rfl) (ty_TCounter.fl r8.1) rfl) ?_
    refine S.sil 35 rfl rfl (fun _ hF => .move (lk 2 rfl rfl)) ?_
    obtain ⟨r9, m9, h⟩ := h.bnd
    refine S.sil 36 rfl rfl (fun _ hF => .callQ ent76 cF (.c (lk 2 rfl rfl) (V.sub.refl _) (.c (lk 1 rfl rfl) (V.sub.refl _) (.c (lk 0 rfl rfl) (V.sub.refl _) .nil))) (C_field_changed m9)) ?_
    refine S.sil 37 rfl rfl (fun _ hF => .extract (lk 0 rfl rfl) rfl) ?_
    refine S.sil 38 rfl rfl (fun _ hF => .extract (lk 1 rfl rfl) rfl) ?_
    refine S.effN rfl rfl (.nf (H2 := [.dead, .cells (E_TField r9.1), .dead]) (.storeP sz42 (lk 9 rfl rfl) (lk 1 rfl rfl) rfl (.refl _) rfl .nil (by first | rfl | omega) .nil (ty_TField.fl r9.1) (fl_st (flL_c (show flen _ = 1 from rfl) (flL_c (show flen _ = 1 from rfl) (flL_c (show flen _ = 1 from rfl) (flL_c (ty_TCounter.fl (default : TCounter)) (flL_c (ty_TLock.fl (default : TLock)) (flL_c (show flen _ = 1 from rfl) flL_nil))))))) rfl) rfl rfl) trivial ?_
    refine S.sil 11 rfl rfl (fun _ hF => .assign (lk 0 rfl rfl)) ?_
    refine S.nil ?_
    refine thenQ_n ?_
    refine AWp.prune (.eq (lk 0 rfl rfl) rfl (.eq (lk 10 rfl rfl) rfl .nil)) ?_
    refine AWp.ret ?_
    refine endF_wk (Wk.freeze 1 rfl rfl (.same (lk 0 rfl rfl) (.cons (lk 1 rfl rfl) rfl (.ptr .nil (by first | rfl | omega)) .nil)) (.refl _)) ?_
    obtain rfl := h.ret
    exact endFN rfl (Wk.selS [] .nil rfl (SelE.leaf (lk 1 rfl rfl) rfl (.refl _) (fun m => (lt_cptr (ty_TField.lt _ _))) (SelE.leaf (lk 0 rfl rfl) rfl (.refl _) (fun m => ((TyOk.int .i64).lt _ _)) .nil)) .nil) (.cons (.cellC sz42 ag42 (lk 0 rfl rfl) (ty_TField.fl _) rfl) (.cons (.tmp (lk 1 rfl rfl) rfl) .nil)) rfl rfl rfl
theorem C_hold_Expire {a1 : List THold} {a2 : Int} {a3 : Int} {r : (List THold) × Int} (h : hold_Expire a1 a2 a3 = some r) : PureC Pg 172 [.sl 5 .no (List.map E_THold a1), (V.int .i64) a2, (V.int .i64) a3] (.tup [E_S_THold r.1, (V.int .i64) r.2]) := by
  refine PureC.ofF (CallSpec.of_bodyF 49 0 fn172 rfl rfl rfl (Nat.le_of_ble_eq_true rfl) ?_) (ltL_c (lt_sl rfl (ty_THold.ltm _ _)) (ltL_c ((TyOk.int .i64).lt _ _) (ltL_c ((TyOk.int .i64).lt _ _) ltL_nil))) (lt_tup (ltL_c (ty_S_THold.lt _ _) (ltL_c ((TyOk.int .i64).lt _ _) ltL_nil)))
  replace h := Ok.of h
  unfold hold_Expire at h
  refine AWp.seq ?_
  refine W.reg [0, 1] rfl ?_
  refine S.sil 6 rfl rfl (fun _ hF => .assign cNs) ?_
  refine S.sil 7 rfl rfl (fun _ hF => .assign cI) ?_
  refine S.nil ?_
  refine thenQ_n ?_
  refine AWp.seq ?_
  refine W.reg [0, 1, 2, 3] rfl ?_
  refine S.sil 12 rfl rfl (fun _ hF => .move (lk 2 rfl rfl)) ?_
  obtain ⟨l4, m4, h⟩ := h.bnd
  refine S.eff 13 rfl rfl (.nf (v2 := .slo 5 0 [] 0 0 l4.length 1) (H2 := [.buf 5 (List.map E_THold l4)]) (.callN ent54 cF [] (C_cloneO_54 m4) .nil .nil (ltL_c (ty_S_THold.lt _ _) ltL_nil) (.c (lk 0 rfl rfl) (vsubr (V.sub.refl _) (ty_S_THold.lt _ 0)) .nil) rfl (mapc (ren_buf ty_THold _) rfl) rfl) rfl rfl) trivial ?_
  refine S.sil 8 rfl rfl (fun _ hF => .assign (lk 0 rfl rfl)) ?_
  refine S.sil 9 rfl rfl (fun _ hF => .assign cI) ?_
  refine S.nil ?_
  refine thenQ_n ?_
  refine AWp.seq ?_
  refine AWp.seq ?_
  refine W.reg [0, 1, 2] rfl ?_
  refine S.sil 14 rfl rfl (fun _ hF => .move (lk 6 rfl rfl)) ?_
  obtain ⟨r5, m5, h⟩ := h.bnd
  refine S.sil 15 rfl rfl (fun _ hF => .callQ ent132 cF (.c (lk 0 rfl rfl) (V.sub.refl _) .nil) (C_hold_Rights m5)) ?_
  refine S.sil 16 rfl rfl (fun _ hF => .not (lk 0 rfl rfl)) ?_
  refine S.nil ?_
  refine thenQ_n ?_
  refine AWp.condM (lk 0 rfl rfl) h (fun c1 h => ?_) (fun c1 h => ?_)
  · skip
    refine AWp.seq ?_
    refine W.reg [0, 1, 2] rfl ?_
    refine S.sil 17 rfl rfl (fun _ hF => .move (lk 4 rfl rfl)) ?_
    refine S.sil 6 rfl rfl (fun _ hF => .assign (lk 0 rfl rfl)) ?_
    refine S.sil 7 rfl rfl (fun _ hF => .assign cI) ?_
    refine S.nil ?_
    refine thenQ_n ?_
    refine AWp.ret ?_
    refine thenQ_r ?_
    refine endF_wk (Wk.freeze 0 rfl rfl (.same (lk 0 rfl rfl) (.cons (lk 1 rfl rfl) rfl (.slo (by first | rfl | simp)) (.same (lk 0 rfl rfl) (.same (lk 1 rfl rfl) .nil)))) (.refl _)) ?_
    obtain rfl := h.ret
    exact endFN rfl (Wk.selS [] .nil rfl (SelE.leaf (lk 1 rfl rfl) rfl (.refl _) (fun m => (ty_S_THold.lt _ _)) (SelE.leaf (lk 0 rfl rfl) rfl (.refl _) (fun m => ((TyOk.int .i64).lt _ _)) .nil)) .nil) (.cons (.tmp (lk 0 rfl rfl) rfl) (.cons (.tmp (lk 1 rfl rfl) rfl) .nil)) rfl rfl rfl
  · skip
    refine AWp.skip ?_
    refine thenQ_n ?_
    refine AWp.seq ?_
    refine AWp.seq ?_
    refine W.reg [0, 1, 2] rfl ?_
    refine S.sil 18 rfl rfl (fun _ hF => .move (lk 4 rfl rfl)) ?_
    refine S.sil 19 rfl rfl (fun _ hF => .lenO sli40 (lk 0 rfl rfl)) ?_
    refine S.sil 20 rfl rfl (fun _ hF => .move cI) ?_
    refine S.nil ?_
    refine thenQ_n ?_
    refine AWp.cutX (fun x8 => ⟨[(9, (V.int .i64) x8.1), (8, .slo 5 0 [] 0 0 x8.2.length 1), (7, (V.int .i64) 0), (6, .nils)], [.buf 5 (List.map E_THold x8.2)]⟩) nc_then h (fun q6 hq6 => ?_) (fun x8 h => ?_)
    · refine AWp.block ?_
      refine AWp.loopT (fun s7 => ⟨[(20, (V.int .i64) s7.1), (19, (V.int .i64) ((l4.length : Nat) : Int)), (18, .slo 5 0 [] 0 0 s7.2.1.length 1), (9, (V.int .i64) s7.2.2), (8, .slo 5 0 [] 0 0 s7.2.1.length 1), (7, (V.int .i64) 0), (6, .nils), (1, (V.int .i64) a2), (2, (V.int .i64) a3)], [.buf 5 (List.map E_THold s7.2.1)]⟩) hq6 (Wk.selS [0] (by decide) rfl (SelE.leaf (lk 0 rfl rfl) rfl (.refl _) (fun m => ((TyOk.int .i64).lt _ _)) (SelE.leaf (lk 1 rfl rfl) rfl (.refl _) (fun m => ((TyOk.int .i64).lt _ _)) (SelE.spec (lk 2 rfl rfl) rfl (.slo (by first | rfl | simp)) rfl rfl (SelE.leaf (lk 6 rfl rfl) rfl (.refl _) (fun m => ((TyOk.int .i64).lt _ _)) (SelE.spec (lk 7 rfl rfl) rfl (.slo (by first | rfl | simp)) rfl rfl (SelE.leaf (lk 10 rfl rfl) rfl (.refl _) (fun m => ((TyOk.int .i64).lt _ _)) (SelE.leaf (lk 11 rfl rfl) rfl (.refl _) (fun m => rfl) (SelE.leaf (lk 13 rfl rfl) rfl (.refl _) (fun m => ((TyOk.int .i64).lt _ _)) (SelE.leaf (lk 14 rfl rfl) rfl (.refl _) (fun m => ((TyOk.int .i64).lt _ _)) .nil))))))))) (.cons (lt_buf ty_THold) rfl ⟨rfl, RSubL.leafr ty_THold _ rfl⟩ .nil)) (fun _ s7 h6 => ?_)
      rw [hold_Expire_L1] at h6
      refine AWp.seq ?_
      refine W.reg [0] rfl ?_
      refine S.sil 21 rfl rfl (fun _ hF => .lss (lk 0 rfl rfl) (lk 1 rfl rfl)) ?_
      refine S.nil ?_
      refine thenQ_n ?_
      refine AWp.seq ?_
      refine AWp.condM (lk 0 rfl rfl) h6 (fun c2 h6 => ?_) (fun c2 h6 => ?_)
      · skip
        refine AWp.skip ?_
        refine thenQ_n ?_
        refine AWp.seq ?_
        refine AWp.block ?_
        refine AWp.seq ?_
        refine W.reg [0, 1, 2, 3, 4, 5] rfl ?_
        refine S.sil 22 rfl rfl (fun _ hF => .move (lk 1 rfl rfl)) ?_
        obtain ⟨j9, m9, h6⟩ := h6.bnd
        refine S.sil 23 rfl rfl (fun _ hF => .ixO sli40 (lk 4 rfl rfl) (lk 2 rfl rfl) (by first | rfl | simp) m9) ?_
        obtain ⟨v10, ev10, h6⟩ := h6.nam
        refine S.qui 24 rfl rfl (fun _ => .nv (.loadB sz101 ag101 (lk 0 rfl rfl) rfl (.ls (by have := six_lt m9; simp at this ⊢; omega) .nil) (by first | rfl | omega) (ty_THold.fl (s7.2.1.getD j9 default)) rfl) (congrArg E_THold ev10.symm)) ?_
        refine S.eff 11 rfl rfl (.nf (v2 := .ptr 1 [] 0) (H2 := [.buf 5 (List.map E_THold s7.2.1), .cells (E_THold (default : THold))]) (.alloc zv101) rfl rfl) trivial ?_
        refine S.sil 10 rfl rfl (fun _ hF => .assign (lk 3 rfl rfl)) ?_
        refine S.effN rfl rfl (.nf (H2 := [.buf 5 (List.map E_THold s7.2.1), .cells (E_THold v10)]) (.storeP sz101 (lk 1 rfl rfl) (lk 2 rfl rfl) rfl (.refl _) rfl .nil (by first | rfl | omega) .nil (ty_THold.fl v10) (ty_THold.fl (default : THold)) rfl) rfl rfl) trivial ?_
        refine S.nil ?_
        refine thenQ_n ?_
        refine AWp.wk (Wk.freeze 1 rfl rfl (.same (lk 0 rfl rfl) (.cons (lk 1 rfl rfl) rfl (.ptr .nil (by first | rfl | omega)) (.same (lk 2 rfl rfl) (.same (lk 3 rfl rfl) (.same (lk 4 rfl rfl) (.same (lk 5 rfl rfl) (.same (lk 6 rfl rfl) (.same (lk 7 rfl rfl) (.same (lk 8 rfl rfl) (.same (lk 9 rfl rfl) (.same (lk 10 rfl rfl) (.same (lk 11 rfl rfl) (.same (lk 12 rfl rfl) (.same (lk 13 rfl rfl) (.same (lk 14 rfl rfl) .nil))))))))))))))) (.refl _)) ?_
        refine AWp.seq ?_
        refine W.reg [0, 1, 2, 3, 4, 5, 6, 7, 8, 9, 10, 11, 12, 13, 14] rfl ?_
        refine S.sil 25 rfl rfl (fun _ hF => .fieldAddrC lay101 rfl rfl (lk 1 rfl rfl) rfl flL_nil) ?_
        refine S.sil 26 rfl rfl (fun _ hF => .loadC sz3 ag3 (lk 0 rfl rfl) rfl rfl) ?_
        refine S.sil 27 rfl rfl (fun _ hF => .move (lk 15 rfl rfl)) ?_
        refine S.sil 28 rfl rfl (fun _ hF => .eql (lk 1 rfl rfl) (lk 0 rfl rfl)) ?_
        refine S.sil 29 rfl rfl (fun _ hF => .move (lk 0 rfl rfl)) ?_
        refine S.gsil 30 4 29 true rfl rfl rfl (lk 0 rfl rfl) (fun hB _ hF => .fieldAddrC lay101 rfl rfl (lk 6 rfl rfl) rfl (flL_c (show flen _ = 1 from rfl) (flL_c (show flen _ = 1 from rfl) (flL_c (show flen _ = 1 from rfl) (flL_c (show flen _ = 1 from rfl) flL_nil))))) ?_
        refine S.gsil 31 4 29 true rfl rfl rfl (lk 1 rfl rfl) (fun hB _ hF => .loadC sz3 ag3 (ifT hB (lk 0 rfl rfl)) rfl rfl) ?_
        refine S.gsil 32 4 29 true rfl rfl rfl (lk 2 rfl rfl) (fun hB _ hF => .eql (ifT hB (lk 0 rfl rfl)) cI) ?_
        refine S.sil 33 rfl rfl (fun _ hF => .pickAnd (lk 3 rfl rfl) (fun h => ifT h (lk 0 rfl rfl)) cB) ?_
        refine S.sil 34 rfl rfl (fun _ hF => .move (lk 0 rfl rfl)) ?_
        refine S.gsil 35 9 34 true rfl rfl rfl (lk 0 rfl rfl) (fun hB _ hF => .fieldAddrC lay101 rfl rfl (lk 11 rfl rfl) rfl (flL_c (show flen _ = 1 from rfl) (flL_c (show flen _ = 1 from rfl) (flL_c (show flen _ = 1 from rfl) flL_nil)))) ?_
        refine S.gsil 36 9 34 true rfl rfl rfl (lk 1 rfl rfl) (fun hB _ hF => .loadC sz3 ag3 (ifT hB (lk 0 rfl rfl)) rfl rfl) ?_
        refine S.gsil 37 9 34 true rfl rfl rfl (lk 2 rfl rfl) (fun hB _ hF => .move (lk 26 rfl rfl)) ?_
        refine S.gsil 38 9 34 true rfl rfl rfl (lk 3 rfl rfl) (fun hB _ hF => .lss (ifT hB (lk 1 rfl rfl)) (ifT hB (lk 0 rfl rfl))) ?_
        obtain ⟨v11, ev11, h6⟩ := h6.nam
        refine S.sil 39 rfl rfl (fun _ hF => .nv (.pickAnd (lk 4 rfl rfl) (fun h => ifT h (lk 0 rfl rfl)) cB) (congrArg V.bool ev11.symm)) ?_
        refine S.nil ?_
        refine thenQ_n ?_
        refine AWp.condM (lk 0 rfl rfl) h6 (fun c3 h6 => ?_) (fun c3 h6 => ?_)
        · skip
          refine AWp.seq ?_
          refine W.reg [0, 1, 2, 3, 4] rfl ?_
          refine S.sil 40 rfl rfl (fun _ hF => .move (lk 25 rfl rfl)) ?_
          refine S.sil 41 rfl rfl (fun _ hF => .move (lk 16 rfl rfl)) ?_
          obtain ⟨j12, m12, h6⟩ := h6.bnd
          refine S.sil 42 rfl rfl (fun _ hF => .ixO sli40 (lk 1 rfl rfl) (lk 0 rfl rfl) (by first | rfl | simp) m12) ?_
          refine S.sil 43 rfl rfl (fun _ hF => .fieldAddr lay101 rfl rfl (lk 0 rfl rfl)) ?_
          obtain ⟨v13, ev13, h6⟩ := h6.nam
          refine S.effN rfl rfl (.nf (H2 := [.buf 5 (List.map E_THold v13), .dead]) (.storeB sz3 (lk 0 rfl rfl) cI rfl (.refl _) rfl (.ls (by have := six_lt m12; simp at this ⊢; omega) (.st rfl (flL_c (show flen _ = 1 from rfl) (flL_c (show flen _ = 1 from rfl) (flL_c (show flen _ = 1 from rfl) (flL_c (show flen _ = 1 from rfl) flL_nil)))) .nil)) (by first | rfl | omega) (.ls ({ (s7.2.1.getD j12 default) with State := 3 }) (by have := six_lt m12; simp at this ⊢; omega) (.st rfl .nil rfl)) rfl rfl (congrArg (fun z => ([AObj.buf 5 (List.map E_THold z), .dead] : List AObj)) ev13.symm)) rfl rfl) trivial ?_
          refine S.nil ?_
          refine thenQ_n ?_
          refine W.reg [0, 1, 2] rfl ?_
          refine S.sil 44 rfl rfl (fun _ hF => .move (lk 28 rfl rfl)) ?_
          refine S.sil 45 rfl rfl (fun _ hF => .add (lk 0 rfl rfl) cI) ?_
          refine S.sil 9 rfl rfl (fun _ hF => .assign (lk 0 rfl rfl)) ?_
          refine S.nil ?_
          refine blockQ_n ?_
          refine thenQ_n ?_
          refine W.reg [0, 1] rfl ?_
          refine S.sil 46 rfl rfl (fun _ hF => .add (lk 28 rfl rfl) cI) ?_
          refine S.sil 20 rfl rfl (fun _ hF => .move (lk 0 rfl rfl)) ?_
          refine S.nil ?_
          refine thenQ_n ?_
          exact ⟨_, h6.ret, (Wk.selS [0] (by decide) rfl (SelE.leaf (lk 0 rfl rfl) rfl (.refl _) (fun m => ((TyOk.int .i64).lt _ _)) (SelE.leaf (lk 31 rfl rfl) rfl (.refl _) (fun m => ((TyOk.int .i64).lt _ _)) (SelE.spec (lk 32 rfl rfl) rfl (.slo (by first | rfl | simp [ev13])) rfl rfl (SelE.leaf (lk 2 rfl rfl) rfl (.refl _) (fun m => ((TyOk.int .i64).lt _ _)) (SelE.spec (lk 34 rfl rfl) rfl (.slo (by first | rfl | simp [ev13])) rfl rfl (SelE.leaf (lk 35 rfl rfl) rfl (.refl _) (fun m => ((TyOk.int .i64).lt _ _)) (SelE.leaf (lk 36 rfl rfl) rfl (.refl _) (fun m => rfl) (SelE.leaf (lk 37 rfl rfl) rfl (.refl _) (fun m => ((TyOk.int .i64).lt _ _)) (SelE.leaf (lk 38 rfl rfl) rfl (.refl _) (fun m => ((TyOk.int .i64).lt _ _)) .nil))))))))) (.cons (lt_buf ty_THold) rfl ⟨rfl, RSubL.leafr ty_THold _ rfl⟩ .nil))⟩
        · skip
          refine AWp.skip ?_
          refine blockQ_n ?_
          refine thenQ_n ?_
          refine W.reg [0, 1] rfl ?_
          refine S.sil 46 rfl rfl (fun _ hF => .add (lk 21 rfl rfl) cI) ?_
          refine S.sil 20 rfl rfl (fun _ hF => .move (lk 0 rfl rfl)) ?_
          refine S.nil ?_
          refine thenQ_n ?_
          exact ⟨_, h6.ret, (Wk.selS [0] (by decide) rfl (SelE.leaf (lk 0 rfl rfl) rfl (.refl _) (fun m => ((TyOk.int .i64).lt _ _)) (SelE.leaf (lk 24 rfl rfl) rfl (.refl _) (fun m => ((TyOk.int .i64).lt _ _)) (SelE.spec (lk 25 rfl rfl) rfl (.slo (by first | rfl | simp)) rfl rfl (SelE.leaf (lk 26 rfl rfl) rfl (.refl _) (fun m => ((TyOk.int .i64).lt _ _)) (SelE.spec (lk 27 rfl rfl) rfl (.slo (by first | rfl | simp)) rfl rfl (SelE.leaf (lk 28 rfl rfl) rfl (.refl _) (fun m => ((TyOk.int .i64).lt _ _)) (SelE.leaf (lk 29 rfl rfl) rfl (.refl _) (fun m => rfl) (SelE.leaf (lk 30 rfl rfl) rfl (.refl _) (fun m => ((TyOk.int .i64).lt _ _)) (SelE.leaf (lk 31 rfl rfl) rfl (.refl _) (fun m => ((TyOk.int .i64).lt _ _)) .nil))))))))) (.cons (lt_buf ty_THold) rfl ⟨rfl, RSubL.leafr ty_THold _ rfl⟩ .nil))⟩
      · skip
        refine AWp.exit ?_
        refine thenQ_x ?_
        refine thenQ_x ?_
        refine blockQ_x ?_
        refine thenQ_n ?_
        exact ⟨_, h6.ret, (Wk.selS [0] (by decide) rfl (SelE.leaf (lk 4 rfl rfl) rfl (.refl _) (fun m => ((TyOk.int .i64).lt _ _)) (SelE.spec (lk 5 rfl rfl) rfl (.slo (by first | rfl | simp)) rfl rfl (SelE.leaf (lk 6 rfl rfl) rfl (.refl _) (fun m => ((TyOk.int .i64).lt _ _)) (SelE.leaf (lk 7 rfl rfl) rfl (.refl _) (fun m => rfl) .nil)))) (.cons (lt_buf ty_THold) rfl ⟨rfl, RSubL.leafr ty_THold _ rfl⟩ .nil))⟩
    · skip
      refine thenQ_n ?_
      refine AWp.seq ?_
      refine W.reg [0, 1, 2, 3] rfl ?_
      refine S.sil 47 rfl rfl (fun _ hF => .move (lk 1 rfl rfl)) ?_
      refine S.sil 48 rfl rfl (fun _ hF => .move (lk 1 rfl rfl)) ?_
      refine S.sil 6 rfl rfl (fun _ hF => .assign (lk 1 rfl rfl)) ?_
      refine S.sil 7 rfl rfl (fun _ hF => .assign (lk 1 rfl rfl)) ?_
      refine S.nil ?_
      refine thenQ_n ?_
      refine AWp.ret ?_
      refine endF_wk (Wk.freeze 0 rfl rfl (.same (lk 0 rfl rfl) (.cons (lk 1 rfl rfl) rfl (.slo (by first | rfl | simp)) (.same (lk 0 rfl rfl) (.same (lk 1 rfl rfl) .nil)))) (.refl _)) ?_
      obtain rfl := h.ret
      exact endFN rfl (Wk.selS [] .nil rfl (SelE.leaf (lk 1 rfl rfl) rfl (.refl _) (fun m => (ty_S_THold.lt _ _)) (SelE.leaf (lk 0 rfl rfl) rfl (.refl _) (fun m => ((TyOk.int .i64).lt _ _)) .nil)) .nil) (.cons (.tmp (lk 0 rfl rfl) rfl) (.cons (.tmp (lk 1 rfl rfl) rfl) .nil)) rfl rfl rfl
theorem C_field_Expire {a1 : TField} {a2 : Int} {a3 : Int} {r : TField × Int} (h : field_Expire a1 a2 a3 = some r) : PureC Pg 117 [E_TField a1, (V.int .i64) a2, (V.int .i64) a3] (.tup [E_TField r.1, (V.int .i64) r.2]) := by
  refine PureC.ofF (CallSpec.of_bodyF 27 0 fn117 rfl rfl rfl (Nat.le_of_ble_eq_true rfl) ?_) (ltL_c (ty_TField.lt _ _) (ltL_c ((TyOk.int .i64).lt _ _) (ltL_c ((TyOk.int .i64).lt _ _) ltL_nil))) (lt_tup (ltL_c (ty_TField.lt _ _) (ltL_c ((TyOk.int .i64).lt _ _) ltL_nil)))
  replace h := Ok.of h
  unfold field_Expire at h
  refine AWp.seq ?_
  refine W.reg [0, 1, 2] rfl ?_
  refine S.eff 3 rfl rfl (.nf (v2 := .ptr 0 [] 0) (H2 := [.cells (E_TField a1)]) (.box (lk 0 rfl rfl) rfl) rfl rfl) trivial ?_
  refine S.eff 6 rfl rfl (.nf (v2 := .ptr 1 [] 0) (H2 := [.cells (E_TField a1), .cells (.st [V.str (default : ByteArray), (V.int .i64) 0, (V.int .i64) 0, E_TCounter (default : TCounter), E_TLock (default : TLock), .nils])]) (.alloc zv42) rfl rfl) trivial ?_
  refine S.sil 7 rfl rfl (fun _ hF => .assign cI) ?_
  refine S.nil ?_
  refine thenQ_n ?_
  refine AWp.seq ?_
  refine W.reg [0] rfl ?_
  refine S.sil 8 rfl rfl (fun _ hF => .assign cI) ?_
  refine S.nil ?_
  refine thenQ_n ?_
  refine AWp.seq ?_
  refine AWp.seq ?_
  refine W.reg [0, 1, 2] rfl ?_
  refine S.sil 9 rfl rfl (fun _ hF => .fieldAddr lay42 rfl rfl (lk 3 rfl rfl)) ?_
  refine S.qui 10 rfl rfl (fun _ => .loadP sz3 ag3 (lk 0 rfl rfl) rfl (.st rfl (flL_c (show flen _ = 1 from rfl) flL_nil) .nil) (by first | rfl | omega) rfl rfl) ?_
  refine S.sil 11 rfl rfl (fun _ hF => .eql (lk 0 rfl rfl) cI) ?_
  refine S.nil ?_
  refine thenQ_n ?_
  refine AWp.condM (lk 0 rfl rfl) h (fun c1 h => ?_) (fun c1 h => ?_)
  · skip
    refine W.reg [0, 1, 2, 3, 4, 5, 6, 7, 8, 9, 10] rfl ?_
    refine S.sil 13 rfl rfl (fun _ hF => .fieldAddr lay42 rfl rfl (lk 6 rfl rfl)) ?_
    refine S.qui 14 rfl rfl (fun _ => .loadP sz40 ag40 (lk 0 rfl rfl) rfl (.st rfl (flL_c (show flen _ = 1 from rfl) (flL_c (show flen _ = 1 from rfl) (flL_c (show flen _ = 1 from rfl) (flL_c (ty_TCounter.fl a1.Counter) (flL_c (ty_TLock.fl a1.Lock) flL_nil))))) .nil) (by first | rfl | omega) rfl rfl) ?_
    refine S.sil 15 rfl rfl (fun _ hF => .move (lk 10 rfl rfl)) ?_
    refine S.sil 16 rfl rfl (fun _ hF => .move (lk 12 rfl rfl)) ?_
    obtain ⟨r4, m4, h⟩ := h.bnd
    refine S.sil 17 rfl rfl (fun _ hF => .callQ ent172 cF (.c (lk 2 rfl rfl) (V.sub.refl _) (.c (lk 1 rfl rfl) (V.sub.refl _) (.c (lk 0 rfl rfl) (V.sub.refl _) .nil))) (C_hold_Expire m4)) ?_
    refine S.sil 12 rfl rfl (fun _ hF => .move (lk 0 rfl rfl)) ?_
    refine S.sil 18 rfl rfl (fun _ hF => .extract (lk 0 rfl rfl) rfl) ?_
    refine S.sil 19 rfl rfl (fun _ hF => .extract (lk 1 rfl rfl) rfl) ?_
    refine S.sil 20 rfl rfl (fun _ hF => .fieldAddr lay42 rfl rfl (lk 14 rfl rfl)) ?_
    obtain ⟨v5, ev5, h⟩ := h.nam
    refine S.effN rfl rfl (.nf (H2 := [.cells (E_TField v5), .cells (.st [V.str (default : ByteArray), (V.int .i64) 0, (V.int .i64) 0, E_TCounter (default : TCounter), E_TLock (default : TLock), .nils])]) (.storeP sz40 (lk 0 rfl rfl) (lk 2 rfl rfl) rfl (.refl _) rfl (.st rfl (flL_c (show flen _ = 1 from rfl) (flL_c (show flen _ = 1 from rfl) (flL_c (show flen _ = 1 from rfl) (flL_c (ty_TCounter.fl a1.Counter) (flL_c (ty_TLock.fl a1.Lock) flL_nil))))) .nil) (by first | rfl | omega) (.st rfl .nil rfl) rfl rfl (congrArg (fun z => ([AObj.cells (E_TField z), .cells (.st [V.str (default : ByteArray), (V.int .i64) 0, (V.int .i64) 0, E_TCounter (default : TCounter), E_TLock (default : TLock), .nils])] : List AObj)) ev5.symm)) rfl rfl) trivial ?_
    refine S.sil 8 rfl rfl (fun _ hF => .assign (lk 1 rfl rfl)) ?_
    refine S.nil ?_
    refine thenQ_n ?_
    refine AWp.prune (.eq (lk 0 rfl rfl) rfl (.eq (lk 14 rfl rfl) rfl (.eq (lk 15 rfl rfl) rfl (.eq (lk 16 rfl rfl) rfl .nil)))) ?_
    refine AWp.seq ?_
    refine W.reg [0, 1, 2, 3] rfl ?_
    refine S.qui 25 rfl rfl (fun _ => .loadP sz42 ag42 (lk 3 rfl rfl) rfl .nil (by first | rfl | omega) (ty_TField.fl v5) rfl) ?_
    refine S.sil 26 rfl rfl (fun _ hF => .move (lk 1 rfl rfl)) ?_
    refine S.effN rfl rfl (.nf (H2 := [.cells (E_TField v5), .cells (E_TField v5)]) (.storeP sz42 (lk 4 rfl rfl) (lk 1 rfl rfl) rfl (.refl _) rfl .nil (by first | rfl | omega) .nil (ty_TField.fl v5) (fl_st (flL_c (show flen _ = 1 from rfl) (flL_c (show flen _ = 1 from rfl) (flL_c (show flen _ = 1 from rfl) (flL_c (ty_TCounter.fl (default : TCounter)) (flL_c (ty_TLock.fl (default : TLock)) (flL_c (show flen _ = 1 from rfl) flL_nil))))))) rfl) rfl rfl) trivial ?_
    refine S.sil 7 rfl rfl (fun _ hF => .assign (lk 0 rfl rfl)) ?_
    refine S.nil ?_
    refine thenQ_n ?_
    refine AWp.ret ?_
    refine endF_wk (Wk.freeze 1 rfl rfl (.same (lk 0 rfl rfl) (.same (lk 0 rfl rfl) (.cons (lk 5 rfl rfl) rfl (.ptr .nil (by first | rfl | omega)) .nil))) (.refl _)) ?_
    obtain rfl := h.ret
    exact endFN rfl (Wk.selS [] .nil rfl (SelE.leaf (lk 2 rfl rfl) rfl (.refl _) (fun m => (lt_cptr (ty_TField.lt _ _))) (SelE.leaf (lk 0 rfl rfl) rfl (.refl _) (fun m => ((TyOk.int .i64).lt _ _)) .nil)) .nil) (.cons (.cellC sz42 ag42 (lk 0 rfl rfl) (ty_TField.fl _) rfl) (.cons (.tmp (lk 1 rfl rfl) rfl) .nil)) rfl rfl rfl
  · skip
    refine W.reg [0, 1, 2, 3, 4] rfl ?_
    refine S.sil 21 rfl rfl (fun _ hF => .fieldAddr lay42 rfl rfl (lk 6 rfl rfl)) ?_
    refine S.qui 22 rfl rfl (fun _ => .loadP sz40 ag40 (lk 0 rfl rfl) rfl (.st rfl (flL_c (show flen _ = 1 from rfl) (flL_c (show flen _ = 1 from rfl) (flL_c (show flen _ = 1 from rfl) (flL_c (ty_TCounter.fl a1.Counter) (flL_c (ty_TLock.fl a1.Lock) flL_nil))))) .nil) (by first | rfl | omega) rfl rfl) ?_
    obtain ⟨r6, m6, h⟩ := h.bnd
    refine S.sil 23 rfl rfl (fun _ hF => .callQ ent54 cF (.c (lk 0 rfl rfl) (V.sub.refl _) .nil) (C_clone_54 m6)) ?_
    refine S.sil 24 rfl rfl (fun _ hF => .fieldAddr lay42 rfl rfl (lk 9 rfl rfl)) ?_
    obtain ⟨v7, ev7, h⟩ := h.nam
    refine S.effN rfl rfl (.nf (H2 := [.cells (E_TField v7), .cells (.st [V.str (default : ByteArray), (V.int .i64) 0, (V.int .i64) 0, E_TCounter (default : TCounter), E_TLock (default : TLock), .nils])]) (.storeP sz40 (lk 0 rfl rfl) (lk 1 rfl rfl) rfl (.refl _) rfl (.st rfl (flL_c (show flen _ = 1 from rfl) (flL_c (show flen _ = 1 from rfl) (flL_c (show flen _ = 1 from rfl) (flL_c (ty_TCounter.fl a1.Counter) (flL_c (ty_TLock.fl a1.Lock) flL_nil))))) .nil) (by first | rfl | omega) (.st rfl .nil rfl) rfl rfl (congrArg (fun z => ([AObj.cells (E_TField z), .cells (.st [V.str (default : ByteArray), (V.int .i64) 0, (V.int .i64) 0, E_TCounter (default : TCounter), E_TLock (default : TLock), .nils])] : List AObj)) ev7.symm)) rfl rfl) trivial ?_
    refine S.nil ?_
    refine thenQ_n ?_
    refine AWp.prune (.eq (lk 7 rfl rfl) rfl (.eq (lk 8 rfl rfl) rfl (.eq (lk 9 rfl rfl) rfl (.eq (lk 10 rfl rfl) rfl .nil)))) ?_
    refine AWp.seq ?_
    refine W.reg [0, 1, 2, 3] rfl ?_
    refine S.qui 25 rfl rfl (fun _ => .loadP sz42 ag42 (lk 3 rfl rfl) rfl .nil (by first | rfl | omega) (ty_TField.fl v7) rfl) ?_
    refine S.sil 26 rfl rfl (fun _ hF => .move (lk 1 rfl rfl)) ?_
    refine S.effN rfl rfl (.nf (H2 := [.cells (E_TField v7), .cells (E_TField v7)]) (.storeP sz42 (lk 4 rfl rfl) (lk 1 rfl rfl) rfl (.refl _) rfl .nil (by first | rfl | omega) .nil (ty_TField.fl v7) (fl_st (flL_c (show flen _ = 1 from rfl) (flL_c (show flen _ = 1 from rfl) (flL_c (show flen _ = 1 from rfl) (flL_c (ty_TCounter.fl (default : TCounter)) (flL_c (ty_TLock.fl (default : TLock)) (flL_c (show flen _ = 1 from rfl) flL_nil))))))) rfl) rfl rfl) trivial ?_
    refine S.sil 7 rfl rfl (fun _ hF => .assign (lk 0 rfl rfl)) ?_
    refine S.nil ?_
    refine thenQ_n ?_
    refine AWp.ret ?_
    refine endF_wk (Wk.freeze 1 rfl rfl (.same (lk 0 rfl rfl) (.same (lk 0 rfl rfl) (.cons (lk 5 rfl rfl) rfl (.ptr .nil (by first | rfl | omega)) .nil))) (.refl _)) ?_
    obtain rfl := h.ret
    exact endFN rfl (Wk.selS [] .nil rfl (SelE.leaf (lk 2 rfl rfl) rfl (.refl _) (fun m => (lt_cptr (ty_TField.lt _ _))) (SelE.leaf (lk 0 rfl rfl) rfl (.refl _) (fun m => ((TyOk.int .i64).lt _ _)) .nil)) .nil) (.cons (.cellC sz42 ag42 (lk 0 rfl rfl) (ty_TField.fl _) rfl) (.cons (.tmp (lk 1 rfl rfl) rfl) .nil)) rfl rfl rfl
theorem C_lock_Write {a1 : TLock} {a2 : Int} {a3 : Int} {r : TLock × Int} (h : lock_Write a1 a2 a3 = some r) : PureC Pg 88 [E_TLock a1, (V.int .i64) a2, (V.int .i64) a3] (.tup [E_TLock r.1, (V.int .i64) r.2]) := by
  refine PureC.ofF (CallSpec.of_bodyF 34 0 fn88 rfl rfl rfl (Nat.le_of_ble_eq_true rfl) ?_) (ltL_c (ty_TLock.lt _ _) (ltL_c ((TyOk.int .i64).lt _ _) (ltL_c ((TyOk.int .i64).lt _ _) ltL_nil))) (lt_tup (ltL_c (ty_TLock.lt _ _) (ltL_c ((TyOk.int .i64).lt _ _) ltL_nil)))
  replace h := Ok.of h
  unfold lock_Write at h
  refine AWp.seq ?_
  refine W.reg [0, 1, 2] rfl ?_
  refine S.eff 3 rfl rfl (.nf (v2 := .ptr 0 [] 0) (H2 := [.cells (E_TLock a1)]) (.box (lk 0 rfl rfl) rfl) rfl rfl) trivial ?_
  refine S.eff 6 rfl rfl (.nf (v2 := .ptr 1 [] 0) (H2 := [.cells (E_TLock a1), .cells (E_TLock (default : TLock))]) (.alloc zv39) rfl rfl) trivial ?_
  refine S.sil 7 rfl rfl (fun _ hF => .assign cI) ?_
  refine S.nil ?_
  refine thenQ_n ?_
  refine AWp.seq ?_
  refine AWp.seq ?_
  refine W.reg [0, 1, 2, 3] rfl ?_
  refine S.sil 10 rfl rfl (fun _ hF => .move (lk 4 rfl rfl)) ?_
  refine S.sil 11 rfl rfl (fun _ hF => .fieldAddr lay39 rfl rfl (lk 3 rfl rfl)) ?_
  refine S.qui 12 rfl rfl (fun _ => .loadP sz3 ag3 (lk 0 rfl rfl) rfl (.st rfl (flL_c (show flen _ = 1 from rfl) (flL_c (show flen _ = 1 from rfl) flL_nil)) .nil) (by first | rfl | omega) rfl rfl) ?_
  refine S.sil 13 rfl rfl (fun _ hF => .neq (lk 2 rfl rfl) (lk 0 rfl rfl)) ?_
  refine S.nil ?_
  refine thenQ_n ?_
  refine AWp.condM (lk 0 rfl rfl) h (fun c1 h => ?_) (fun c1 h => ?_)
  · skip
    refine AWp.seq ?_
    refine W.reg [0, 1, 2] rfl ?_
    refine S.sil 14 rfl rfl (fun _ hF => .nv (v2 := E_TLock (⟨0, 0, 0, 0⟩ : TLock)) (.buildStW lay39 zv39 rfl .nil) rfl) ?_
    obtain ⟨v4, ev4, h⟩ := h.nam
    refine S.effN rfl rfl (.nf (H2 := [.cells (E_TLock a1), .cells (E_TLock v4)]) (.storeP sz39 (lk 6 rfl rfl) (lk 0 rfl rfl) rfl (.refl _) rfl .nil (by first | rfl | omega) .nil (ty_TLock.fl (⟨0, 0, 0, 0⟩ : TLock)) (ty_TLock.fl (default : TLock)) (congrArg (fun z => ([.cells (E_TLock a1), AObj.cells (E_TLock z)] : List AObj)) ev4.symm)) rfl rfl) trivial ?_
    refine S.sil 7 rfl rfl (fun _ hF => .assign cI) ?_
    refine S.nil ?_
    refine thenQ_n ?_
    refine AWp.ret ?_
    refine thenQ_r ?_
    refine endF_wk (Wk.freeze 1 rfl rfl (.same (lk 0 rfl rfl) (.same (lk 0 rfl rfl) (.cons (lk 7 rfl rfl) rfl (.ptr .nil (by first | rfl | omega)) .nil))) (.refl _)) ?_
    obtain rfl := h.ret
    exact endFN rfl (Wk.selS [] .nil rfl (SelE.leaf (lk 2 rfl rfl) rfl (.refl _) (fun m => (lt_cptr (ty_TLock.lt _ _))) (SelE.leaf (lk 0 rfl rfl) rfl (.refl _) (fun m => ((TyOk.int .i64).lt _ _)) .nil)) .nil) (.cons (.cellC sz39 ag39 (lk 0 rfl rfl) (ty_TLock.fl _) rfl) (.cons (.tmp (lk 1 rfl rfl) rfl) .nil)) rfl rfl rfl
  · skip
    refine AWp.skip ?_
    refine thenQ_n ?_
    refine AWp.seq ?_
    refine W.reg [0, 1, 2, 3, 4, 5, 6, 7] rfl ?_
    refine S.sil 16 rfl rfl (fun _ hF => .fieldAddr lay39 rfl rfl (lk 6 rfl rfl)) ?_
    refine S.qui 17 rfl rfl (fun _ => .loadP sz3 ag3 (lk 0 rfl rfl) rfl (.st rfl (flL_c (show flen _ = 1 from rfl) flL_nil) .nil) (by first | rfl | omega) rfl rfl) ?_
    obtain ⟨r5, m5, h⟩ := h.bnd
    refine S.sil 18 rfl rfl (fun _ hF => .callQ ent164 cF (.c (lk 0 rfl rfl) (V.sub.refl _) (.c cI (V.sub.refl _) .nil)) (C_num_Add m5)) ?_
    refine S.sil 15 rfl rfl (fun _ hF => .move (lk 0 rfl rfl)) ?_
    refine S.sil 19 rfl rfl (fun _ hF => .extract (lk 0 rfl rfl) rfl) ?_
    refine S.sil 20 rfl rfl (fun _ hF => .extract (lk 1 rfl rfl) rfl) ?_
    refine S.sil 8 rfl rfl (fun _ hF => .assign (lk 1 rfl rfl)) ?_
    refine S.sil 9 rfl rfl (fun _ hF => .assign (lk 1 rfl rfl)) ?_
    refine S.nil ?_
    refine thenQ_n ?_
    refine AWp.prune (.eq (lk 0 rfl rfl) rfl (.eq (lk 1 rfl rfl) rfl (.eq (lk 12 rfl rfl) rfl (.eq (lk 13 rfl rfl) rfl (.eq (lk 14 rfl rfl) rfl (.eq (lk 17 rfl rfl) rfl .nil)))))) ?_
    refine AWp.seq ?_
    refine AWp.seq ?_
    refine W.reg [0, 1, 2, 3, 4, 5, 6] rfl ?_
    refine S.sil 21 rfl rfl (fun _ hF => .move (lk 0 rfl rfl)) ?_
    refine S.sil 22 rfl rfl (fun _ hF => .neq (lk 0 rfl rfl) cI) ?_
    refine S.sil 23 rfl rfl (fun _ hF => .move (lk 0 rfl rfl)) ?_
    refine S.gsil 24 2 23 false rfl rfl rfl (lk 0 rfl rfl) (fun hB _ hF => .move (lk 8 rfl rfl)) ?_
    obtain ⟨r6, m6, h⟩ := h.bnd
    refine S.gsil 25 2 23 false rfl rfl rfl (lk 1 rfl rfl) (fun hB _ hF => .callQ ent77 cF (.c (ifT hB (lk 0 rfl rfl)) (V.sub.refl _) .nil) (C_num_Is (gd_get m6 hB))) ?_
    refine S.gsil 26 2 23 false rfl rfl rfl (lk 2 rfl rfl) (fun hB _ hF => .not (ifT hB (lk 0 rfl rfl))) ?_
    refine S.sil 27 rfl rfl (fun _ hF => .pickOr (lk 3 rfl rfl) cB (fun h => ifT h (lk 0 rfl rfl))) ?_
    refine S.nil ?_
    refine thenQ_n ?_
    refine AWp.condM (lk 0 rfl rfl) h (fun c2 h => ?_) (fun c2 h => ?_)
    · skip
      refine AWp.seq ?_
      refine W.reg [0, 1, 2] rfl ?_
      refine S.sil 28 rfl rfl (fun _ hF => .nv (v2 := E_TLock (⟨0, 0, 0, 0⟩ : TLock)) (.buildStW lay39 zv39 rfl .nil) rfl) ?_
      obtain ⟨v7, ev7, h⟩ := h.nam
      refine S.effN rfl rfl (.nf (H2 := [.cells (E_TLock a1), .cells (E_TLock v7)]) (.storeP sz39 (lk 11 rfl rfl) (lk 0 rfl rfl) rfl (.refl _) rfl .nil (by first | rfl | omega) .nil (ty_TLock.fl (⟨0, 0, 0, 0⟩ : TLock)) (ty_TLock.fl (default : TLock)) (congrArg (fun z => ([.cells (E_TLock a1), AObj.cells (E_TLock z)] : List AObj)) ev7.symm)) rfl rfl) trivial ?_
      refine S.sil 7 rfl rfl (fun _ hF => .assign cI) ?_
      refine S.nil ?_
      refine thenQ_n ?_
      refine AWp.prune (.eq (lk 0 rfl rfl) rfl (.eq (lk 10 rfl rfl) rfl (.eq (lk 12 rfl rfl) rfl (.eq (lk 13 rfl rfl) rfl (.eq (lk 14 rfl rfl) rfl .nil))))) ?_
      refine AWp.ret ?_
      refine thenQ_r ?_
      refine endF_wk (Wk.freeze 1 rfl rfl (.same (lk 0 rfl rfl) (.cons (lk 2 rfl rfl) rfl (.ptr .nil (by first | rfl | omega)) .nil)) (.refl _)) ?_
      obtain rfl := h.ret
      exact endFN rfl (Wk.selS [] .nil rfl (SelE.leaf (lk 1 rfl rfl) rfl (.refl _) (fun m => (lt_cptr (ty_TLock.lt _ _))) (SelE.leaf (lk 0 rfl rfl) rfl (.refl _) (fun m => ((TyOk.int .i64).lt _ _)) .nil)) .nil) (.cons (.cellC sz39 ag39 (lk 0 rfl rfl) (ty_TLock.fl _) rfl) (.cons (.tmp (lk 1 rfl rfl) rfl) .nil)) rfl rfl rfl
    · skip
      refine AWp.skip ?_
      refine thenQ_n ?_
      refine AWp.seq ?_
      refine W.reg [0, 1, 2, 3, 4, 5] rfl ?_
      refine S.sil 29 rfl rfl (fun _ hF => .move (lk 8 rfl rfl)) ?_
      refine S.sil 30 rfl rfl (fun _ hF => .move (lk 13 rfl rfl)) ?_
      refine S.sil 31 rfl rfl (fun _ hF => .fieldAddr lay39 rfl rfl (lk 13 rfl rfl)) ?_
      obtain ⟨v8, ev8, h⟩ := h.nam
      refine S.effN rfl rfl (.nf (H2 := [.cells (E_TLock v8), .cells (E_TLock (default : TLock))]) (.storeP sz3 (lk 0 rfl rfl) (lk 2 rfl rfl) rfl (.refl _) rfl (.st rfl (flL_c (show flen _ = 1 from rfl) flL_nil) .nil) (by first | rfl | omega) (.st rfl .nil rfl) rfl rfl (congrArg (fun z => ([AObj.cells (E_TLock z), .cells (E_TLock (default : TLock))] : List AObj)) ev8.symm)) rfl rfl) trivial ?_
      refine S.sil 32 rfl rfl (fun _ hF => .fieldAddr lay39 rfl rfl (lk 14 rfl rfl)) ?_
      obtain ⟨v9, ev9, h⟩ := h.nam
      refine S.effN rfl rfl (.nf (H2 := [.cells (E_TLock v9), .cells (E_TLock (default : TLock))]) (.storeP sz3 (lk 0 rfl rfl) (lk 2 rfl rfl) rfl (.refl _) rfl (.st rfl (flL_c (show flen _ = 1 from rfl) (flL_c (show flen _ = 1 from rfl) (flL_c (show flen _ = 1 from rfl) flL_nil))) .nil) (by first | rfl | omega) (.st rfl .nil rfl) rfl rfl (congrArg (fun z => ([AObj.cells (E_TLock z), .cells (E_TLock (default : TLock))] : List AObj)) ev9.symm)) rfl rfl) trivial ?_
      refine S.nil ?_
      refine thenQ_n ?_
      refine AWp.prune (.eq (lk 13 rfl rfl) rfl (.eq (lk 14 rfl rfl) rfl (.eq (lk 15 rfl rfl) rfl .nil))) ?_
      refine AWp.seq ?_
      refine W.reg [0, 1, 2] rfl ?_
      refine S.qui 33 rfl rfl (fun _ => .loadP sz39 ag39 (lk 2 rfl rfl) rfl .nil (by first | rfl | omega) (ty_TLock.fl v9) rfl) ?_
      refine S.effN rfl rfl (.nf (H2 := [.cells (E_TLock v9), .cells (E_TLock v9)]) (.storeP sz39 (lk 2 rfl rfl) (lk 0 rfl rfl) rfl (.refl _) rfl .nil (by first | rfl | omega) .nil (ty_TLock.fl v9) (ty_TLock.fl (default : TLock)) rfl) rfl rfl) trivial ?_
      refine S.sil 7 rfl rfl (fun _ hF => .assign cI) ?_
      refine S.nil ?_
      refine thenQ_n ?_
      refine AWp.ret ?_
      refine endF_wk (Wk.freeze 1 rfl rfl (.same (lk 0 rfl rfl) (.same (lk 0 rfl rfl) (.cons (lk 3 rfl rfl) rfl (.ptr .nil (by first | rfl | omega)) .nil))) (.refl _)) ?_
      obtain rfl := h.ret
      exact endFN rfl (Wk.selS [] .nil rfl (SelE.leaf (lk 2 rfl rfl) rfl (.refl _) (fun m => (lt_cptr (ty_TLock.lt _ _))) (SelE.leaf (lk 0 rfl rfl) rfl (.refl _) (fun m => ((TyOk.int .i64).lt _ _)) .nil)) .nil) (.cons (.cellC sz39 ag39 (lk 0 rfl rfl) (ty_TLock.fl _) rfl) (.cons (.tmp (lk 1 rfl rfl) rfl) .nil)) rfl rfl rfl
theorem C_field_Write_1 {a1 : TLock} {a2 : Int} {a3 : Int} {r : TLock × Int} (h : field_Write_1 a1 a2 a3 = some r) : PureC Pg 87 [E_TLock a1, .cptr ((V.int .i64) a2), .cptr ((V.int .i64) a3)] (.tup [E_TLock r.1, (V.int .i64) r.2]) := by
  refine PureC.ofF (CallSpec.of_bodyF 12 0 fn87 rfl rfl rfl (Nat.le_of_ble_eq_true rfl) ?_) (ltL_c (ty_TLock.lt _ _) (ltL_c (lt_cptr ((TyOk.int .i64).lt _ _)) (ltL_c (lt_cptr ((TyOk.int .i64).lt _ _)) ltL_nil))) (lt_tup (ltL_c (ty_TLock.lt _ _) (ltL_c ((TyOk.int .i64).lt _ _) ltL_nil)))
  replace h := Ok.of h
  unfold field_Write_1 at h
  refine AWp.seq ?_
  refine W.reg [0, 1, 2] rfl ?_
  refine S.eff 3 rfl rfl (.nf (v2 := .ptr 0 [] 0) (H2 := [.cells (E_TLock a1)]) (.box (lk 0 rfl rfl) rfl) rfl rfl) trivial ?_
  refine S.eff 4 rfl rfl (.nf (v2 := .ptr 1 [] 0) (H2 := [.cells (E_TLock a1), .cells (E_TLock (default : TLock))]) (.alloc zv39) rfl rfl) trivial ?_
  refine S.sil 5 rfl rfl (fun _ hF => .assign cI) ?_
  refine S.nil ?_
  refine thenQ_n ?_
  refine AWp.wk (Wk.freeze 0 rfl rfl (.same (lk 0 rfl rfl) (.same (lk 1 rfl rfl) (.cons (lk 2 rfl rfl) rfl (.ptr .nil (by first | rfl | omega)) (.same (lk 4 rfl rfl) (.same (lk 5 rfl rfl) .nil))))) (.refl _)) ?_
  refine AWp.seq ?_
  refine W.reg [0, 1, 2, 3, 4, 5, 6, 7] rfl ?_
  refine S.sil 6 rfl rfl (fun _ hF => .loadC sz39 ag39 (lk 2 rfl rfl) (ty_TLock.fl a1) rfl) ?_
  refine S.sil 7 rfl rfl (fun _ hF => .loadC sz3 ag3 (lk 4 rfl rfl) rfl rfl) ?_
  refine S.sil 8 rfl rfl (fun _ hF => .loadC sz3 ag3 (lk 6 rfl rfl) rfl rfl) ?_
  obtain ⟨r4, m4, h⟩ := h.bnd
  refine S.sil 9 rfl rfl (fun _ hF => .callQ ent88 cF (.c (lk 2 rfl rfl) (V.sub.refl _) (.c (lk 1 rfl rfl) (V.sub.refl _) (.c (lk 0 rfl rfl) (V.sub.refl _) .nil))) (C_lock_Write m4)) ?_
  refine S.sil 10 rfl rfl (fun _ hF => .extract (lk 0 rfl rfl) rfl) ?_
  refine S.sil 11 rfl rfl (fun _ hF => .extract (lk 1 rfl rfl) rfl) ?_
  refine S.effN rfl rfl (.nf (H2 := [.dead, .cells (E_TLock r4.1)]) (.storeP sz39 (lk 7 rfl rfl) (lk 1 rfl rfl) rfl (.refl _) rfl .nil (by first | rfl | omega) .nil (ty_TLock.fl r4.1) (ty_TLock.fl (default : TLock)) rfl) rfl rfl) trivial ?_
  refine S.sil 5 rfl rfl (fun _ hF => .assign (lk 0 rfl rfl)) ?_
  refine S.nil ?_
  refine thenQ_n ?_
  refine AWp.prune (.eq (lk 0 rfl rfl) rfl (.eq (lk 8 rfl rfl) rfl .nil)) ?_
  refine AWp.ret ?_
  refine endF_wk (Wk.freeze 1 rfl rfl (.same (lk 0 rfl rfl) (.cons (lk 1 rfl rfl) rfl (.ptr .nil (by first | rfl | omega)) .nil)) (.refl _)) ?_
  obtain rfl := h.ret
  exact endFN rfl (Wk.selS [] .nil rfl (SelE.leaf (lk 1 rfl rfl) rfl (.refl _) (fun m => (lt_cptr (ty_TLock.lt _ _))) (SelE.leaf (lk 0 rfl rfl) rfl (.refl _) (fun m => ((TyOk.int .i64).lt _ _)) .nil)) .nil) (.cons (.cellC sz39 ag39 (lk 0 rfl rfl) (ty_TLock.fl _) rfl) (.cons (.tmp (lk 1 rfl rfl) rfl) .nil)) rfl rfl rfl
theorem C_field_locked_Write_1 {a1 : TField} {a2 : Int} {a3 : Int} {r : TField × Int} (h : field_locked_Write_1 a1 a2 a3 = some r) : PureC Pg 86 [E_TField a1, .fn 87 [] [.cptr ((V.int .i64) a2), .cptr ((V.int .i64) a3)]] (.tup [E_TField r.1, (V.int .i64) r.2]) := by
  refine PureC.ofF (CallSpec.of_bodyF 26 0 fn86 rfl rfl rfl (Nat.le_of_ble_eq_true rfl) ?_) (ltL_c (ty_TField.lt _ _) (ltL_c (lt_fn ltL_nil (ltL_c (lt_cptr ((TyOk.int .i64).lt _ _)) (ltL_c (lt_cptr ((TyOk.int .i64).lt _ _)) ltL_nil))) ltL_nil)) (lt_tup (ltL_c (ty_TField.lt _ _) (ltL_c ((TyOk.int .i64).lt _ _) ltL_nil)))
  replace h := Ok.of h
  unfold field_locked_Write_1 at h
  refine AWp.seq ?_
  refine W.reg [0, 1, 2] rfl ?_
  refine S.eff 2 rfl rfl (.nf (v2 := .ptr 0 [] 0) (H2 := [.cells (E_TField a1)]) (.box (lk 0 rfl rfl) rfl) rfl rfl) trivial ?_
  refine S.eff 4 rfl rfl (.nf (v2 := .ptr 1 [] 0) (H2 := [.cells (E_TField a1), .cells (.st [V.str (default : ByteArray), (V.int .i64) 0, (V.int .i64) 0, E_TCounter (default : TCounter), E_TLock (default : TLock), .nils])]) (.alloc zv42) rfl rfl) trivial ?_
  refine S.sil 5 rfl rfl (fun _ hF => .assign cI) ?_
  refine S.nil ?_
  refine thenQ_n ?_
  refine AWp.seq ?_
  refine AWp.seq ?_
  refine W.reg [0, 1, 2] rfl ?_
  refine S.sil 8 rfl rfl (fun _ hF => .fieldAddr lay42 rfl rfl (lk 2 rfl rfl)) ?_
  refine S.qui 9 rfl rfl (fun _ => .loadP sz3 ag3 (lk 0 rfl rfl) rfl (.st rfl (flL_c (show flen _ = 1 from rfl) flL_nil) .nil) (by first | rfl | omega) rfl rfl) ?_
  refine S.sil 10 rfl rfl (fun _ hF => .neq (lk 0 rfl rfl) cI) ?_
  refine S.nil ?_
  refine thenQ_n ?_
  refine AWp.condM (lk 0 rfl rfl) h (fun c1 h => ?_) (fun c1 h => ?_)
  · skip
    refine AWp.seq ?_
    refine W.reg [0, 1, 2] rfl ?_
    obtain ⟨v4, ev4, h⟩ := h.nam
    refine S.sil 11 rfl rfl (fun _ hF => .nv (.vs (v := .st [V.str (default : ByteArray), (V.int .i64) 0, (V.int .i64) 0, E_TCounter (default : TCounter), E_TLock (default : TLock), .nils]) (v2 := E_TField (⟨(default : ByteArray), 0, 0, (default : TCounter), (default : TLock), ([] : List THold)⟩ : TField)) (.buildStW lay42 zv42 rfl .nil) rfl (.st (.cons (.refl _) (.cons (.refl _) (.cons (.refl _) (.cons (.refl _) (.cons (.refl _) (.cons (.nils_no _) .nil)))))))) (congrArg E_TField ev4.symm)) ?_
    refine S.effN rfl rfl (.nf (H2 := [.cells (E_TField a1), .cells (E_TField v4)]) (.storeP sz42 (lk 5 rfl rfl) (lk 0 rfl rfl) rfl (.refl _) rfl .nil (by first | rfl | omega) .nil (ty_TField.fl v4) (fl_st (flL_c (show flen _ = 1 from rfl) (flL_c (show flen _ = 1 from rfl) (flL_c (show flen _ = 1 from rfl) (flL_c (ty_TCounter.fl (default : TCounter)) (flL_c (ty_TLock.fl (default : TLock)) (flL_c (show flen _ = 1 from rfl) flL_nil))))))) rfl) rfl rfl) trivial ?_
    refine S.sil 5 rfl rfl (fun _ hF => .assign cI) ?_
    refine S.nil ?_
    refine thenQ_n ?_
    refine AWp.ret ?_
    refine thenQ_r ?_
    refine endF_wk (Wk.freeze 1 rfl rfl (.same (lk 0 rfl rfl) (.same (lk 0 rfl rfl) (.cons (lk 6 rfl rfl) rfl (.ptr .nil (by first | rfl | omega)) .nil))) (.refl _)) ?_
    obtain rfl := h.ret
    exact endFN rfl (Wk.selS [] .nil rfl (SelE.leaf (lk 2 rfl rfl) rfl (.refl _) (fun m => (lt_cptr (ty_TField.lt _ _))) (SelE.leaf (lk 0 rfl rfl) rfl (.refl _) (fun m => ((TyOk.int .i64).lt _ _)) .nil)) .nil) (.cons (.cellC sz42 ag42 (lk 0 rfl rfl) (ty_TField.fl _) rfl) (.cons (.tmp (lk 1 rfl rfl) rfl) .nil)) rfl rfl rfl
  · skip
    refine AWp.skip ?_
    refine thenQ_n ?_
    refine AWp.seq ?_
    refine W.reg [0, 1, 2, 3, 4, 5, 6, 7, 8, 9] rfl ?_
    refine S.sil 13 rfl rfl (fun _ hF => .move (lk 7 rfl rfl)) ?_
    refine S.sil 14 rfl rfl (fun _ hF => .fieldAddr lay42 rfl rfl (lk 6 rfl rfl)) ?_
    refine S.qui 15 rfl rfl (fun _ => .loadP sz39 ag39 (lk 0 rfl rfl) rfl (.st rfl (flL_c (show flen _ = 1 from rfl) (flL_c (show flen _ = 1 from rfl) (flL_c (show flen _ = 1 from rfl) (flL_c (ty_TCounter.fl a1.Counter) flL_nil)))) .nil) (by first | rfl | omega) (ty_TLock.fl a1.Lock) rfl) ?_
    obtain ⟨r5, m5, h⟩ := h.bnd
    refine S.sil 16 rfl rfl (fun _ hF => .callQ ent87 (lk 2 rfl rfl) (.c (lk 0 rfl rfl) (V.sub.refl _) (.cons (.refl _) (.cons (.refl _) .nil))) (C_field_Write_1 m5)) ?_
    refine S.sil 12 rfl rfl (fun _ hF => .move (lk 0 rfl rfl)) ?_
    refine S.sil 17 rfl rfl (fun _ hF => .extract (lk 0 rfl rfl) rfl) ?_
    refine S.sil 18 rfl rfl (fun _ hF => .extract (lk 1 rfl rfl) rfl) ?_
    refine S.eff 6 rfl rfl (.nf (v2 := .ptr 2 [] 0) (H2 := [.cells (E_TField a1), .cells (.st [V.str (default : ByteArray), (V.int .i64) 0, (V.int .i64) 0, E_TCounter (default : TCounter), E_TLock (default : TLock), .nils]), .cells (E_TLock (default : TLock))]) (.alloc zv39) rfl rfl) trivial ?_
    refine S.effN rfl rfl (.nf (H2 := [.cells (E_TField a1), .cells (.st [V.str (default : ByteArray), (V.int .i64) 0, (V.int .i64) 0, E_TCounter (default : TCounter), E_TLock (default : TLock), .nils]), .cells (E_TLock r5.1)]) (.storeP sz39 (lk 0 rfl rfl) (lk 2 rfl rfl) rfl (.refl _) rfl .nil (by first | rfl | omega) .nil (ty_TLock.fl r5.1) (ty_TLock.fl (default : TLock)) rfl) rfl rfl) trivial ?_
    refine S.sil 7 rfl rfl (fun _ hF => .assign (lk 1 rfl rfl)) ?_
    refine S.nil ?_
    refine thenQ_n ?_
    refine AWp.wk (Wk.freeze 2 rfl rfl (.same (lk 0 rfl rfl) (.cons (lk 1 rfl rfl) rfl (.ptr .nil (by first | rfl | omega)) (.same (lk 12 rfl rfl) (.same (lk 13 rfl rfl) (.same (lk 14 rfl rfl) .nil))))) (.refl _)) ?_
    refine AWp.seq ?_
    refine W.reg [0, 1, 2] rfl ?_
    refine S.sil 19 rfl rfl (fun _ hF => .loadC sz39 ag39 (lk 1 rfl rfl) (ty_TLock.fl r5.1) rfl) ?_
    refine S.sil 20 rfl rfl (fun _ hF => .fieldAddr lay42 rfl rfl (lk 5 rfl rfl)) ?_
    obtain ⟨v6, ev6, h⟩ := h.nam
    refine S.effN rfl rfl (.nf (H2 := [.cells (E_TField v6), .cells (.st [V.str (default : ByteArray), (V.int .i64) 0, (V.int .i64) 0, E_TCounter (default : TCounter), E_TLock (default : TLock), .nils]), .dead]) (.storeP sz39 (lk 0 rfl rfl) (lk 1 rfl rfl) rfl (.refl _) rfl (.st rfl (flL_c (show flen _ = 1 from rfl) (flL_c (show flen _ = 1 from rfl) (flL_c (show flen _ = 1 from rfl) (flL_c (ty_TCounter.fl a1.Counter) flL_nil)))) .nil) (by first | rfl | omega) (.st rfl .nil rfl) (ty_TLock.fl r5.1) (ty_TLock.fl a1.Lock) (congrArg (fun z => ([AObj.cells (E_TField z), .cells (.st [V.str (default : ByteArray), (V.int .i64) 0, (V.int .i64) 0, E_TCounter (default : TCounter), E_TLock (default : TLock), .nils]), .dead] : List AObj)) ev6.symm)) rfl rfl) trivial ?_
    refine S.nil ?_
    refine thenQ_n ?_
    refine AWp.seq ?_
    refine W.reg [0, 1, 2, 3, 4, 5, 6] rfl ?_
    refine S.qui 21 rfl rfl (fun _ => .loadP sz42 ag42 (lk 6 rfl rfl) rfl .nil (by first | rfl | omega) (ty_TField.fl v6) rfl) ?_
    refine S.sil 22 rfl rfl (fun _ hF => .move (lk 3 rfl rfl)) ?_
    obtain ⟨r7, m7, h⟩ := h.bnd
    refine S.sil 23 rfl rfl (fun _ hF => .callQ ent116 cF (.c (lk 1 rfl rfl) (V.sub.refl _) (.c (lk 0 rfl rfl) (V.sub.refl _) .nil)) (C_field_done m7)) ?_
    refine S.sil 24 rfl rfl (fun _ hF => .extract (lk 0 rfl rfl) rfl) ?_
    refine S.sil 25 rfl rfl (fun _ hF => .extract (lk 1 rfl rfl) rfl) ?_
    refine S.effN rfl rfl (.nf (H2 := [.cells (E_TField v6), .cells (E_TField r7.1), .dead]) (.storeP sz42 (lk 10 rfl rfl) (lk 1 rfl rfl) rfl (.refl _) rfl .nil (by first | rfl | omega) .nil (ty_TField.fl r7.1) (fl_st (flL_c (show flen _ = 1 from rfl) (flL_c (show flen _ = 1 from rfl) (flL_c (show flen _ = 1 from rfl) (flL_c (ty_TCounter.fl (default : TCounter)) (flL_c (ty_TLock.fl (default : TLock)) (flL_c (show flen _ = 1 from rfl) flL_nil))))))) rfl) rfl rfl) trivial ?_
    refine S.sil 5 rfl rfl (fun _ hF => .assign (lk 0 rfl rfl)) ?_
    refine S.nil ?_
    refine thenQ_n ?_
    refine AWp.prune (.eq (lk 0 rfl rfl) rfl (.eq (lk 11 rfl rfl) rfl .nil)) ?_
    refine AWp.ret ?_
    refine endF_wk (Wk.freeze 1 rfl rfl (.same (lk 0 rfl rfl) (.cons (lk 1 rfl rfl) rfl (.ptr .nil (by first | rfl | omega)) .nil)) (.refl _)) ?_
    obtain rfl := h.ret
    exact endFN rfl (Wk.selS [] .nil rfl (SelE.leaf (lk 1 rfl rfl) rfl (.refl _) (fun m => (lt_cptr (ty_TField.lt _ _))) (SelE.leaf (lk 0 rfl rfl) rfl (.refl _) (fun m => ((TyOk.int .i64).lt _ _)) .nil)) .nil) (.cons (.cellC sz42 ag42 (lk 0 rfl rfl) (ty_TField.fl _) rfl) (.cons (.tmp (lk 1 rfl rfl) rfl) .nil)) rfl rfl rfl
theorem C_field_Write {a1 : TField} {a2 : Int} {a3 : Int} {r : TField × Int} (h : field_Write a1 a2 a3 = some r) : PureC Pg 28 [E_TField a1, (V.int .i64) a2, (V.int .i64) a3] (.tup [E_TField r.1, (V.int .i64) r.2]) := by
  refine PureC.ofF (CallSpec.of_bodyF 13 0 fn28 rfl rfl rfl (Nat.le_of_ble_eq_true rfl) ?_) (ltL_c (ty_TField.lt _ _) (ltL_c ((TyOk.int .i64).lt _ _) (ltL_c ((TyOk.int .i64).lt _ _) ltL_nil))) (lt_tup (ltL_c (ty_TField.lt _ _) (ltL_c ((TyOk.int .i64).lt _ _) ltL_nil)))
  replace h := Ok.of h
  unfold field_Write at h
  refine AWp.seq ?_
  refine W.reg [0, 1, 2, 3, 4] rfl ?_
  refine S.eff 3 rfl rfl (.nf (v2 := .ptr 0 [] 0) (H2 := [.cells (E_TField a1)]) (.box (lk 0 rfl rfl) rfl) rfl rfl) trivial ?_
  refine S.eff 4 rfl rfl (.nf (v2 := .ptr 1 [] 0) (H2 := [.cells (E_TField a1), .cells ((V.int .i64) a2)]) (.box (lk 2 rfl rfl) rfl) rfl rfl) trivial ?_
  refine S.eff 5 rfl rfl (.nf (v2 := .ptr 2 [] 0) (H2 := [.cells (E_TField a1), .cells ((V.int .i64) a2), .cells ((V.int .i64) a3)]) (.box (lk 4 rfl rfl) rfl) rfl rfl) trivial ?_
  refine S.eff 6 rfl rfl (.nf (v2 := .ptr 3 [] 0) (H2 := [.cells (E_TField a1), .cells ((V.int .i64) a2), .cells ((V.int .i64) a3), .cells (.st [V.str (default : ByteArray), (V.int .i64) 0, (V.int .i64) 0, E_TCounter (default : TCounter), E_TLock (default : TLock), .nils])]) (.alloc zv42) rfl rfl) trivial ?_
  refine S.sil 7 rfl rfl (fun _ hF => .assign cI) ?_
  refine S.nil ?_
  refine thenQ_n ?_
  refine AWp.wk (Wk.freeze 0 rfl rfl (.same (lk 0 rfl rfl) (.same (lk 1 rfl rfl) (.same (lk 2 rfl rfl) (.same (lk 3 rfl rfl) (.cons (lk 4 rfl rfl) rfl (.ptr .nil (by first | rfl | omega)) .nil))))) (.refl _)) ?_
  refine AWp.wk (Wk.freeze 1 rfl rfl (.same (lk 0 rfl rfl) (.same (lk 1 rfl rfl) (.same (lk 2 rfl rfl) (.cons (lk 3 rfl rfl) rfl (.ptr .nil (by first | rfl | omega)) (.same (lk 4 rfl rfl) .nil))))) (.refl _)) ?_
  refine AWp.wk (Wk.freeze 2 rfl rfl (.same (lk 0 rfl rfl) (.same (lk 1 rfl rfl) (.cons (lk 2 rfl rfl) rfl (.ptr .nil (by first | rfl | omega)) (.same (lk 3 rfl rfl) (.same (lk 4 rfl rfl) .nil))))) (.refl _)) ?_
  refine AWp.seq ?_
  refine W.reg [0, 1, 2, 3, 4, 5, 6] rfl ?_
  refine S.sil 8 rfl rfl (fun _ hF => .loadC sz42 ag42 (lk 4 rfl rfl) (ty_TField.fl a1) rfl) ?_
  refine S.sil 9 rfl rfl (fun _ hF => .makeFunc rfl (mapE2 (lk 4 rfl rfl) (lk 3 rfl rfl)) rfl rfl) ?_
  obtain ⟨r4, m4, h⟩ := h.bnd
  refine S.sil 10 rfl rfl (fun _ hF => .callQ ent86 cF (.c (lk 1 rfl rfl) (V.sub.refl _) (.c (lk 0 rfl rfl) (V.sub.refl _) .nil)) (C_field_locked_Write_1 m4)) ?_
  refine S.sil 11 rfl rfl (fun _ hF => .extract (lk 0 rfl rfl) rfl) ?_
  refine S.sil 12 rfl rfl (fun _ hF => .extract (lk 1 rfl rfl) rfl) ?_
  refine S.effN rfl rfl (.nf (H2 := [.dead, .dead, .dead, .cells (E_TField r4.1)]) (.storeP sz42 (lk 6 rfl rfl) (lk 1 rfl rfl) rfl (.refl _) rfl .nil (by first | rfl | omega) .nil (ty_TField.fl r4.1) (fl_st (flL_c (show flen _ = 1 from rfl) (flL_c (show flen _ = 1 from rfl) (flL_c (show flen _ = 1 from rfl) (flL_c (ty_TCounter.fl (default : TCounter)) (flL_c (ty_TLock.fl (default : TLock)) (flL_c (show flen _ = 1 from rfl) flL_nil))))))) rfl) rfl rfl) trivial ?_
  refine S.sil 7 rfl rfl (fun _ hF => .assign (lk 0 rfl rfl)) ?_
  refine S.nil ?_
  refine thenQ_n ?_
  refine AWp.ret ?_
  refine endF_wk (Wk.freeze 3 rfl rfl (.same (lk 0 rfl rfl) (.same (lk 0 rfl rfl) (.cons (lk 7 rfl rfl) rfl (.ptr .nil (by first | rfl | omega)) .nil))) (.refl _)) ?_
  obtain rfl := h.ret
  exact endFN rfl (Wk.selS [] .nil rfl (SelE.leaf (lk 2 rfl rfl) rfl (.refl _) (fun m => (lt_cptr (ty_TField.lt _ _))) (SelE.leaf (lk 0 rfl rfl) rfl (.refl _) (fun m => ((TyOk.int .i64).lt _ _)) .nil)) .nil) (.cons (.cellC sz42 ag42 (lk 0 rfl rfl) (ty_TField.fl _) rfl) (.cons (.tmp (lk 1 rfl rfl) rfl) .nil)) rfl rfl rfl
theorem C_lock_Pass {a1 : TLock} {a2 : Int} {a3 : Int} {r : TLock × Int} (h : lock_Pass a1 a2 a3 = some r) : PureC Pg 91 [E_TLock a1, (V.int .i64) a2, (V.int .i64) a3] (.tup [E_TLock r.1, (V.int .i64) r.2]) := by
  refine PureC.ofF (CallSpec.of_bodyF 37 0 fn91 rfl rfl rfl (Nat.le_of_ble_eq_true rfl) ?_) (ltL_c (ty_TLock.lt _ _) (ltL_c ((TyOk.int .i64).lt _ _) (ltL_c ((TyOk.int .i64).lt _ _) ltL_nil))) (lt_tup (ltL_c (ty_TLock.lt _ _) (ltL_c ((TyOk.int .i64).lt _ _) ltL_nil)))
  replace h := Ok.of h
  unfold lock_Pass at h
  refine AWp.seq ?_
  refine W.reg [0, 1, 2] rfl ?_
  refine S.eff 3 rfl rfl (.nf (v2 := .ptr 0 [] 0) (H2 := [.cells (E_TLock a1)]) (.box (lk 0 rfl rfl) rfl) rfl rfl) trivial ?_
  refine S.eff 6 rfl rfl (.nf (v2 := .ptr 1 [] 0) (H2 := [.cells (E_TLock a1), .cells (E_TLock (default : TLock))]) (.alloc zv39) rfl rfl) trivial ?_
  refine S.sil 7 rfl rfl (fun _ hF => .assign cI) ?_
  refine S.nil ?_
  refine thenQ_n ?_
  refine AWp.seq ?_
  refine AWp.block ?_
  refine AWp.seq ?_
  refine W.reg [0, 1, 2, 3, 4] rfl ?_
  refine S.sil 11 rfl rfl (fun _ hF => .move (lk 4 rfl rfl)) ?_
  refine S.sil 12 rfl rfl (fun _ hF => .fieldAddr lay39 rfl rfl (lk 3 rfl rfl)) ?_
  refine S.qui 13 rfl rfl (fun _ => .loadP sz3 ag3 (lk 0 rfl rfl) rfl (.st rfl (flL_c (show flen _ = 1 from rfl) (flL_c (show flen _ = 1 from rfl) flL_nil)) .nil) (by first | rfl | omega) rfl rfl) ?_
  refine S.sil 14 rfl rfl (fun _ hF => .neq (lk 2 rfl rfl) (lk 0 rfl rfl)) ?_
  obtain ⟨v4, ev4, h⟩ := h.nam
  refine S.sil 10 rfl rfl (fun _ hF => .nv (.assign (lk 0 rfl rfl)) (congrArg V.bool ev4.symm)) ?_
  refine S.nil ?_
  refine thenQ_n ?_
  refine AWp.condM (lk 0 rfl rfl) h (fun c1 h => ?_) (fun c1 h => ?_)
  · skip
    refine AWp.seq ?_
    refine W.reg [0, 1, 2] rfl ?_
    refine S.sil 15 rfl rfl (fun _ hF => .nv (v2 := E_TLock (⟨0, 0, 0, 0⟩ : TLock)) (.buildStW lay39 zv39 rfl .nil) rfl) ?_
    obtain ⟨v5, ev5, h⟩ := h.nam
    refine S.effN rfl rfl (.nf (H2 := [.cells (E_TLock a1), .cells (E_TLock v5)]) (.storeP sz39 (lk 7 rfl rfl) (lk 0 rfl rfl) rfl (.refl _) rfl .nil (by first | rfl | omega) .nil (ty_TLock.fl (⟨0, 0, 0, 0⟩ : TLock)) (ty_TLock.fl (default : TLock)) (congrArg (fun z => ([.cells (E_TLock a1), AObj.cells (E_TLock z)] : List AObj)) ev5.symm)) rfl rfl) trivial ?_
    refine S.sil 7 rfl rfl (fun _ hF => .assign cI) ?_
    refine S.nil ?_
    refine thenQ_n ?_
    refine AWp.ret ?_
    refine blockQ_r ?_
    refine thenQ_r ?_
    refine endF_wk (Wk.freeze 1 rfl rfl (.same (lk 0 rfl rfl) (.same (lk 0 rfl rfl) (.cons (lk 8 rfl rfl) rfl (.ptr .nil (by first | rfl | omega)) .nil))) (.refl _)) ?_
    obtain rfl := h.ret
    exact endFN rfl (Wk.selS [] .nil rfl (SelE.leaf (lk 2 rfl rfl) rfl (.refl _) (fun m => (lt_cptr (ty_TLock.lt _ _))) (SelE.leaf (lk 0 rfl rfl) rfl (.refl _) (fun m => ((TyOk.int .i64).lt _ _)) .nil)) .nil) (.cons (.cellC sz39 ag39 (lk 0 rfl rfl) (ty_TLock.fl _) rfl) (.cons (.tmp (lk 1 rfl rfl) rfl) .nil)) rfl rfl rfl
  · skip
    refine AWp.seq ?_
    refine W.reg [0, 1, 2, 3] rfl ?_
    refine S.sil 17 rfl rfl (fun _ hF => .move (lk 10 rfl rfl)) ?_
    obtain ⟨r6, m6, h⟩ := h.bnd
    refine S.sil 18 rfl rfl (fun _ hF => .callQ ent165 cF (.c (lk 0 rfl rfl) (V.sub.refl _) .nil) (C_lock_is m6)) ?_
    refine S.sil 19 rfl rfl (fun _ hF => .not (lk 0 rfl rfl)) ?_
    refine S.sil 16 rfl rfl (fun _ hF => .assign (lk 0 rfl rfl)) ?_
    refine S.nil ?_
    refine thenQ_n ?_
    refine AWp.prune (.eq (lk 0 rfl rfl) rfl (.eq (lk 9 rfl rfl) rfl (.eq (lk 10 rfl rfl) rfl (.eq (lk 11 rfl rfl) rfl (.eq (lk 14 rfl rfl) rfl .nil))))) ?_
    refine AWp.condM (lk 0 rfl rfl) h (fun c2 h => ?_) (fun c2 h => ?_)
    · skip
      refine AWp.seq ?_
      refine W.reg [0, 1, 2] rfl ?_
      refine S.sil 20 rfl rfl (fun _ hF => .nv (v2 := E_TLock (⟨0, 0, 0, 0⟩ : TLock)) (.buildStW lay39 zv39 rfl .nil) rfl) ?_
      obtain ⟨v7, ev7, h⟩ := h.nam
      refine S.effN rfl rfl (.nf (H2 := [.cells (E_TLock a1), .cells (E_TLock v7)]) (.storeP sz39 (lk 3 rfl rfl) (lk 0 rfl rfl) rfl (.refl _) rfl .nil (by first | rfl | omega) .nil (ty_TLock.fl (⟨0, 0, 0, 0⟩ : TLock)) (ty_TLock.fl (default : TLock)) (congrArg (fun z => ([.cells (E_TLock a1), AObj.cells (E_TLock z)] : List AObj)) ev7.symm)) rfl rfl) trivial ?_
      refine S.sil 7 rfl rfl (fun _ hF => .assign cI) ?_
      refine S.nil ?_
      refine thenQ_n ?_
      refine AWp.ret ?_
      refine blockQ_r ?_
      refine thenQ_r ?_
      refine endF_wk (Wk.freeze 1 rfl rfl (.same (lk 0 rfl rfl) (.same (lk 0 rfl rfl) (.cons (lk 4 rfl rfl) rfl (.ptr .nil (by first | rfl | omega)) .nil))) (.refl _)) ?_
      obtain rfl := h.ret
      exact endFN rfl (Wk.selS [] .nil rfl (SelE.leaf (lk 2 rfl rfl) rfl (.refl _) (fun m => (lt_cptr (ty_TLock.lt _ _))) (SelE.leaf (lk 0 rfl rfl) rfl (.refl _) (fun m => ((TyOk.int .i64).lt _ _)) .nil)) .nil) (.cons (.cellC sz39 ag39 (lk 0 rfl rfl) (ty_TLock.fl _) rfl) (.cons (.tmp (lk 1 rfl rfl) rfl) .nil)) rfl rfl rfl
    · skip
      refine AWp.skip ?_
      refine blockQ_n ?_
      refine thenQ_n ?_
      refine AWp.seq ?_
      refine W.reg [0, 1, 2, 3, 4, 5, 6, 7] rfl ?_
      refine S.sil 22 rfl rfl (fun _ hF => .fieldAddr lay39 rfl rfl (lk 3 rfl rfl)) ?_
      refine S.qui 23 rfl rfl (fun _ => .loadP sz3 ag3 (lk 0 rfl rfl) rfl (.st rfl flL_nil .nil) (by first | rfl | omega) rfl rfl) ?_
      obtain ⟨r8, m8, h⟩ := h.bnd
      refine S.sil 24 rfl rfl (fun _ hF => .callQ ent164 cF (.c (lk 0 rfl rfl) (V.sub.refl _) (.c cI (V.sub.refl _) .nil)) (C_num_Add m8)) ?_
      refine S.sil 21 rfl rfl (fun _ hF => .move (lk 0 rfl rfl)) ?_
      refine S.sil 25 rfl rfl (fun _ hF => .extract (lk 0 rfl rfl) rfl) ?_
      refine S.sil 26 rfl rfl (fun _ hF => .extract (lk 1 rfl rfl) rfl) ?_
      refine S.sil 8 rfl rfl (fun _ hF => .assign (lk 1 rfl rfl)) ?_
      refine S.sil 9 rfl rfl (fun _ hF => .assign (lk 1 rfl rfl)) ?_
      refine S.nil ?_
      refine thenQ_n ?_
      refine AWp.seq ?_
      refine AWp.seq ?_
      refine W.reg [0, 1] rfl ?_
      refine S.sil 27 rfl rfl (fun _ hF => .move (lk 0 rfl rfl)) ?_
      refine S.sil 28 rfl rfl (fun _ hF => .neq (lk 0 rfl rfl) cI) ?_
      refine S.nil ?_
      refine thenQ_n ?_
      refine AWp.condM (lk 0 rfl rfl) h (fun c3 h => ?_) (fun c3 h => ?_)
      · skip
        refine AWp.seq ?_
        refine W.reg [0, 1, 2, 3] rfl ?_
        refine S.sil 29 rfl rfl (fun _ hF => .nv (v2 := E_TLock (⟨0, 0, 0, 0⟩ : TLock)) (.buildStW lay39 zv39 rfl .nil) rfl) ?_
        refine S.sil 30 rfl rfl (fun _ hF => .move (lk 3 rfl rfl)) ?_
        obtain ⟨v9, ev9, h⟩ := h.nam
        refine S.effN rfl rfl (.nf (H2 := [.cells (E_TLock a1), .cells (E_TLock v9)]) (.storeP sz39 (lk 14 rfl rfl) (lk 1 rfl rfl) rfl (.refl _) rfl .nil (by first | rfl | omega) .nil (ty_TLock.fl (⟨0, 0, 0, 0⟩ : TLock)) (ty_TLock.fl (default : TLock)) (congrArg (fun z => ([.cells (E_TLock a1), AObj.cells (E_TLock z)] : List AObj)) ev9.symm)) rfl rfl) trivial ?_
        refine S.sil 7 rfl rfl (fun _ hF => .assign (lk 0 rfl rfl)) ?_
        refine S.nil ?_
        refine thenQ_n ?_
        refine AWp.prune (.eq (lk 0 rfl rfl) rfl (.eq (lk 6 rfl rfl) rfl (.eq (lk 15 rfl rfl) rfl (.eq (lk 16 rfl rfl) rfl (.eq (lk 17 rfl rfl) rfl .nil))))) ?_
        refine AWp.ret ?_
        refine thenQ_r ?_
        refine endF_wk (Wk.freeze 1 rfl rfl (.same (lk 0 rfl rfl) (.cons (lk 2 rfl rfl) rfl (.ptr .nil (by first | rfl | omega)) .nil)) (.refl _)) ?_
        obtain rfl := h.ret
        exact endFN rfl (Wk.selS [] .nil rfl (SelE.leaf (lk 1 rfl rfl) rfl (.refl _) (fun m => (lt_cptr (ty_TLock.lt _ _))) (SelE.leaf (lk 0 rfl rfl) rfl (.refl _) (fun m => ((TyOk.int .i64).lt _ _)) .nil)) .nil) (.cons (.cellC sz39 ag39 (lk 0 rfl rfl) (ty_TLock.fl _) rfl) (.cons (.tmp (lk 1 rfl rfl) rfl) .nil)) rfl rfl rfl
      · skip
        refine AWp.skip ?_
        refine thenQ_n ?_
        refine AWp.prune (.eq (lk 3 rfl rfl) rfl (.eq (lk 11 rfl rfl) rfl (.eq (lk 12 rfl rfl) rfl (.eq (lk 13 rfl rfl) rfl (.eq (lk 14 rfl rfl) rfl .nil))))) ?_
        refine AWp.seq ?_
        refine W.reg [0, 1, 2, 3, 4, 5, 6, 7] rfl ?_
        refine S.sil 31 rfl rfl (fun _ hF => .move (lk 0 rfl rfl)) ?_
        refine S.sil 32 rfl rfl (fun _ hF => .move (lk 5 rfl rfl)) ?_
        refine S.sil 33 rfl rfl (fun _ hF => .fieldAddr lay39 rfl rfl (lk 5 rfl rfl)) ?_
        obtain ⟨v10, ev10, h⟩ := h.nam
        refine S.effN rfl rfl (.nf (H2 := [.cells (E_TLock v10), .cells (E_TLock (default : TLock))]) (.storeP sz3 (lk 0 rfl rfl) (lk 2 rfl rfl) rfl (.refl _) rfl (.st rfl flL_nil .nil) (by first | rfl | omega) (.st rfl .nil rfl) rfl rfl (congrArg (fun z => ([AObj.cells (E_TLock z), .cells (E_TLock (default : TLock))] : List AObj)) ev10.symm)) rfl rfl) trivial ?_
        refine S.sil 34 rfl rfl (fun _ hF => .fieldAddr lay39 rfl rfl (lk 6 rfl rfl)) ?_
        obtain ⟨v11, ev11, h⟩ := h.nam
        refine S.effN rfl rfl (.nf (H2 := [.cells (E_TLock v11), .cells (E_TLock (default : TLock))]) (.storeP sz3 (lk 0 rfl rfl) cI rfl (.refl _) rfl (.st rfl (flL_c (show flen _ = 1 from rfl) flL_nil) .nil) (by first | rfl | omega) (.st rfl .nil rfl) rfl rfl (congrArg (fun z => ([AObj.cells (E_TLock z), .cells (E_TLock (default : TLock))] : List AObj)) ev11.symm)) rfl rfl) trivial ?_
        refine S.sil 35 rfl rfl (fun _ hF => .fieldAddr lay39 rfl rfl (lk 7 rfl rfl)) ?_
        obtain ⟨v12, ev12, h⟩ := h.nam
        refine S.effN rfl rfl (.nf (H2 := [.cells (E_TLock v12), .cells (E_TLock (default : TLock))]) (.storeP sz3 (lk 0 rfl rfl) (lk 3 rfl rfl) rfl (.refl _) rfl (.st rfl (flL_c (show flen _ = 1 from rfl) (flL_c (show flen _ = 1 from rfl) flL_nil)) .nil) (by first | rfl | omega) (.st rfl .nil rfl) rfl rfl (congrArg (fun z => ([AObj.cells (E_TLock z), .cells (E_TLock (default : TLock))] : List AObj)) ev12.symm)) rfl rfl) trivial ?_
        refine S.nil ?_
        refine thenQ_n ?_
        refine AWp.seq ?_
        refine W.reg [0, 1, 2] rfl ?_
        refine S.qui 36 rfl rfl (fun _ => .loadP sz39 ag39 (lk 8 rfl rfl) rfl .nil (by first | rfl | omega) (ty_TLock.fl v12) rfl) ?_
        refine S.effN rfl rfl (.nf (H2 := [.cells (E_TLock v12), .cells (E_TLock v12)]) (.storeP sz39 (lk 8 rfl rfl) (lk 0 rfl rfl) rfl (.refl _) rfl .nil (by first | rfl | omega) .nil (ty_TLock.fl v12) (ty_TLock.fl (default : TLock)) rfl) rfl rfl) trivial ?_
        refine S.sil 7 rfl rfl (fun _ hF => .assign cI) ?_
        refine S.nil ?_
        refine thenQ_n ?_
        refine AWp.prune (.eq (lk 0 rfl rfl) rfl (.eq (lk 9 rfl rfl) rfl .nil)) ?_
        refine AWp.ret ?_
        refine endF_wk (Wk.freeze 1 rfl rfl (.same (lk 0 rfl rfl) (.cons (lk 1 rfl rfl) rfl (.ptr .nil (by first | rfl | omega)) .nil)) (.refl _)) ?_
        obtain rfl := h.ret
        exact endFN rfl (Wk.selS [] .nil rfl (SelE.leaf (lk 1 rfl rfl) rfl (.refl _) (fun m => (lt_cptr (ty_TLock.lt _ _))) (SelE.leaf (lk 0 rfl rfl) rfl (.refl _) (fun m => ((TyOk.int .i64).lt _ _)) .nil)) .nil) (.cons (.cellC sz39 ag39 (lk 0 rfl rfl) (ty_TLock.fl _) rfl) (.cons (.tmp (lk 1 rfl rfl) rfl) .nil)) rfl rfl rfl
theorem C_field_Pass_1 {a1 : TLock} {a2 : Int} {a3 : Int} {r : TLock × Int} (h : field_Pass_1 a1 a2 a3 = some r) : PureC Pg 90 [E_TLock a1, .cptr ((V.int .i64) a2), .cptr ((V.int .i64) a3)] (.tup [E_TLock r.1, (V.int .i64) r.2]) := by
  refine PureC.ofF (CallSpec.of_bodyF 12 0 fn90 rfl rfl rfl (Nat.le_of_ble_eq_true rfl) ?_) (ltL_c (ty_TLock.lt _ _) (ltL_c (lt_cptr ((TyOk.int .i64).lt _ _)) (ltL_c (lt_cptr ((TyOk.int .i64).lt _ _)) ltL_nil))) (lt_tup (ltL_c (ty_TLock.lt _ _) (ltL_c ((TyOk.int .i64).lt _ _) ltL_nil)))
  replace h := Ok.of h
  unfold field_Pass_1 at h
  refine AWp.seq ?_
  refine W.reg [0, 1, 2] rfl ?_
  refine S.eff 3 rfl rfl (.nf (v2 := .ptr 0 [] 0) (H2 := [.cells (E_TLock a1)]) (.box (lk 0 rfl rfl) rfl) rfl rfl) trivial ?_
  refine S.eff 4 rfl rfl (.nf (v2 := .ptr 1 [] 0) (H2 := [.cells (E_TLock a1), .cells (E_TLock (default : TLock))]) (.alloc zv39) rfl rfl) trivial ?_
  refine S.sil 5 rfl rfl (fun _ hF => .assign cI) ?_
  refine S.nil ?_
  refine thenQ_n ?_
  refine AWp.wk (Wk.freeze 0 rfl rfl (.same (lk 0 rfl rfl) (.same (lk 1 rfl rfl) (.cons (lk 2 rfl rfl) rfl (.ptr .nil (by first | rfl | omega)) (.same (lk 4 rfl rfl) (.same (lk 5 rfl rfl) .nil))))) (.refl _)) ?_
  refine AWp.seq ?_
  refine W.reg [0, 1, 2, 3, 4, 5, 6, 7] rfl ?_
  refine S.sil 6 rfl rfl (fun _ hF => .loadC sz39 ag39 (lk 2 rfl rfl) (ty_TLock.fl a1) rfl) ?_
  refine S.sil 7 rfl rfl (fun _ hF => .loadC sz3 ag3 (lk 4 rfl rfl) rfl rfl) ?_
  refine S.sil 8 rfl rfl (fun _ hF => .loadC sz3 ag3 (lk 6 rfl rfl) rfl rfl) ?_
  obtain ⟨r4, m4, h⟩ := h.bnd
  refine S.sil 9 rfl rfl (fun _ hF => .callQ ent91 cF (.c (lk 2 rfl rfl) (V.sub.refl _) (.c (lk 1 rfl rfl) (V.sub.refl _) (.c (lk 0 rfl rfl) (V.sub.refl _) .nil))) (C_lock_Pass m4)) ?_
  refine S.sil 10 rfl rfl (fun _ hF => .extract (lk 0 rfl rfl) rfl) ?_
  refine S.sil 11 rfl rfl (fun _ hF => .extract (lk 1 rfl rfl) rfl) ?_
  refine S.effN rfl rfl (.nf (H2 := [.dead, .cells (E_TLock r4.1)]) (.storeP sz39 (lk 7 rfl rfl) (lk 1 rfl rfl) rfl (.refl _) rfl .nil (by first | rfl | omega) .nil (ty_TLock.fl r4.1) (ty_TLock.fl (default : TLock)) rfl) rfl rfl) trivial ?_
  refine S.sil 5 rfl rfl (fun _ hF => .assign (lk 0 rfl rfl)) ?_
  refine S.nil ?_
  refine thenQ_n ?_
  refine AWp.prune (.eq (lk 0 rfl rfl) rfl (.eq (lk 8 rfl rfl) rfl .nil)) ?_
  refine AWp.ret ?_
  refine endF_wk (Wk.freeze 1 rfl rfl (.same (lk 0 rfl rfl) (.cons (lk 1 rfl rfl) rfl (.ptr .nil (by first | rfl | omega)) .nil)) (.refl _)) ?_
  obtain rfl := h.ret
  exact endFN rfl (Wk.selS [] .nil rfl (SelE.leaf (lk 1 rfl rfl) rfl (.refl _) (fun m => (lt_cptr (ty_TLock.lt _ _))) (SelE.leaf (lk 0 rfl rfl) rfl (.refl _) (fun m => ((TyOk.int .i64).lt _ _)) .nil)) .nil) (.cons (.cellC sz39 ag39 (lk 0 rfl rfl) (ty_TLock.fl _) rfl) (.cons (.tmp (lk 1 rfl rfl) rfl) .nil)) rfl rfl rfl
theorem C_field_locked_Pass_1 {a1 : TField} {a2 : Int} {a3 : Int} {r : TField × Int} (h : field_locked_Pass_1 a1 a2 a3 = some r) : PureC Pg 86 [E_TField a1, .fn 90 [] [.cptr ((V.int .i64) a2), .cptr ((V.int .i64) a3)]] (.tup [E_TField r.1, (V.int .i64) r.2]) := by
  refine PureC.ofF (CallSpec.of_bodyF 26 0 fn86 rfl rfl rfl (Nat.le_of_ble_eq_true rfl) ?_) (ltL_c (ty_TField.lt _ _) (ltL_c (lt_fn ltL_nil (ltL_c (lt_cptr ((TyOk.int .i64).lt _ _)) (ltL_c (lt_cptr ((TyOk.int .i64).lt _ _)) ltL_nil))) ltL_nil)) (lt_tup (ltL_c (ty_TField.lt _ _) (ltL_c ((TyOk.int .i64).lt _ _) ltL_nil)))
  replace h := Ok.of h
  unfold field_locked_Pass_1 at h
  refine AWp.seq ?_
  refine W.reg [0, 1, 2] rfl ?_
  refine S.eff 2 rfl rfl (.nf (v2 := .ptr 0 [] 0) (H2 := [.cells (E_TField a1)]) (.box (lk 0 rfl rfl) rfl) rfl rfl) trivial ?_
  refine S.eff 4 rfl rfl (.nf (v2 := .ptr 1 [] 0) (H2 := [.cells (E_TField a1), .cells (.st [V.str (default : ByteArray), (V.int .i64) 0, (V.int .i64) 0, E_TCounter (default : TCounter), E_TLock (default : TLock), .nils])]) (.alloc zv42) rfl rfl) trivial ?_
  refine S.sil 5 rfl rfl (fun _ hF => .assign cI) ?_
  refine S.nil ?_
  refine thenQ_n ?_
  refine AWp.seq ?_
  refine AWp.seq ?_
  refine W.reg [0, 1, 2] rfl ?_
  refine S.sil 8 rfl rfl (fun _ hF => .fieldAddr lay42 rfl rfl (lk 2 rfl rfl)) ?_
  refine S.qui 9 rfl rfl (fun _ => .loadP sz3 ag3 (lk 0 rfl rfl) rfl (.st rfl (flL_c (show flen _ = 1 from rfl) flL_nil) .nil) (by first | rfl | omega) rfl rfl) ?_
  refine S.sil 10 rfl rfl (fun _ hF => .neq (lk 0 rfl rfl) cI) ?_
  refine S.nil ?_
  refine thenQ_n ?_
  refine AWp.condM (lk 0 rfl rfl) h (fun c1 h => ?_) (fun c1 h => ?_)
  · skip
    refine AWp.seq ?_
    refine W.reg [0, 1, 2] rfl ?_
    obtain ⟨v4, ev4, h⟩ := h.nam
    refine S.sil 11 rfl rfl (fun _ hF => .nv (.vs (v := .st [V.str (default : ByteArray), (V.int .i64) 0, (V.int .i64) 0, E_TCounter (default : TCounter), E_TLock (default : TLock), .nils]) (v2 := E_TField (⟨(default : ByteArray), 0, 0, (default : TCounter), (default : TLock), ([] : List THold)⟩ : TField)) (.buildStW lay42 zv42 rfl .nil) rfl (.st (.cons (.refl _) (.cons (.refl _) (.cons (.refl _) (.cons (.refl _) (.cons (.refl _) (.cons (.nils_no _) .nil)))))))) (congrArg E_TField ev4.symm)) ?_
    refine S.effN rfl rfl (.nf (H2 := [.cells (E_TField a1), .cells (E_TField v4)]) (.storeP sz42 (lk 5 rfl rfl) (lk 0 rfl rfl) rfl (.refl _) rfl .nil (by first | rfl | omega) .nil (ty_TField.fl v4) (fl_st (flL_c (show flen _ = 1 from rfl) (flL_c (show flen _ = 1 from rfl) (flL_c (show flen _ = 1 from rfl) (flL_c (ty_TCounter.fl (default : TCounter)) (flL_c (ty_TLock.fl (default : TLock)) (flL_c (show flen _ = 1 from rfl) flL_nil))))))) rfl) rfl rfl) trivial ?_
    refine S.sil 5 rfl rfl (fun _ hF => .assign cI) ?_
    refine S.nil ?_
    refine thenQ_n ?_
    refine AWp.ret ?_
    refine thenQ_r ?_
    refine endF_wk (Wk.freeze 1 rfl rfl (.same (lk 0 rfl rfl) (.same (lk 0 rfl rfl) (.cons (lk 6 rfl rfl) rfl (.ptr .nil (by first | rfl | omega)) .nil))) (.refl _)) ?_
    obtain rfl := h.ret
    exact endFN rfl (Wk.selS [] .nil rfl (SelE.leaf (lk 2 rfl rfl) rfl (.refl _) (fun m => (lt_cptr (ty_TField.lt _ _))) (SelE.leaf (lk 0 rfl rfl) rfl (.refl _) (fun m => ((TyOk.int .i64).lt _ _)) .nil)) .nil) (.cons (.cellC sz42 ag42 (lk 0 rfl rfl) (ty_TField.fl _) rfl) (.cons (.tmp (lk 1 rfl rfl) rfl) .nil)) rfl rfl rfl
  · skip
    refine AWp.skip ?_
    refine thenQ_n ?_
    refine AWp.seq ?_
    refine W.reg [0, 1, 2, 3, 4, 5, 6, 7, 8, 9] rfl ?_
    refine S.sil 13 rfl rfl (fun _ hF => .move (lk 7 rfl rfl)) ?_
    refine S.sil 14 rfl rfl (fun _ hF => .fieldAddr lay42 rfl rfl (lk 6 rfl rfl)) ?_
    refine S.qui 15 rfl rfl (fun _ => .loadP sz39 ag39 (lk 0 rfl rfl) rfl (.st rfl (flL_c (show flen _ = 1 from rfl) (flL_c (show flen _ = 1 from rfl) (flL_c (show flen _ = 1 from rfl) (flL_c (ty_TCounter.fl a1.Counter) flL_nil)))) .nil) (by first | rfl | omega) (ty_TLock.fl a1.Lock) rfl) ?_
    obtain ⟨r5, m5, h⟩ := h.bnd
    refine S.sil 16 rfl rfl (fun _ hF => .callQ ent90 (lk 2 rfl rfl) (.c (lk 0 rfl rfl) (V.sub.refl _) (.cons (.refl _) (.cons (.refl _) .nil))) (C_field_Pass_1 m5)) ?_
    refine S.sil 12 rfl rfl (fun _ hF => .move (lk 0 rfl rfl)) ?_
    refine S.sil 17 rfl rfl (fun _ hF => .extract (lk 0 rfl rfl) rfl) ?_
    refine S.sil 18 rfl rfl (fun _ hF => .extract (lk 1 rfl rfl) rfl) ?_
    refine S.eff 6 rfl rfl (.nf (v2 := .ptr 2 [] 0) (H2 := [.cells (E_TField a1), .cells (.st [V.str (default : ByteArray), (V.int .i64) 0, (V.int .i64) 0, E_TCounter (default : TCounter), E_TLock (default : TLock), .nils]), .cells (E_TLock (default : TLock))]) (.alloc zv39) rfl rfl) trivial ?_
    refine S.effN rfl rfl (.nf (H2 := [.cells (E_TField a1), .cells (.st [V.str (default : ByteArray), (V.int .i64) 0, (V.int .i64) 0, E_TCounter (default : TCounter), E_TLock (default : TLock), .nils]), .cells (E_TLock r5.1)]) (.storeP sz39 (lk 0 rfl rfl) (lk 2 rfl rfl) rfl (.refl _) rfl .nil (by first | rfl | omega) .nil (ty_TLock.fl r5.1) (ty_TLock.fl (default : TLock)) rfl) rfl rfl) trivial ?_
    refine S.sil 7 rfl rfl (fun _ hF => .assign (lk 1 rfl rfl)) ?_
    refine S.nil ?_
    refine thenQ_n ?_
    refine AWp.wk (Wk.freeze 2 rfl rfl (.same (lk 0 rfl rfl) (.cons (lk 1 rfl rfl) rfl (.ptr .nil (by first | rfl | omega)) (.same (lk 12 rfl rfl) (.same (lk 13 rfl rfl) (.same (lk 14 rfl rfl) .nil))))) (.refl _)) ?_
    refine AWp.seq ?_
    refine W.reg [0, 1, 2] rfl ?_
    refine S.sil 19 rfl rfl (fun _ hF => .loadC sz39 ag39 (lk 1 rfl rfl) (ty_TLock.fl r5.1) rfl) ?_
    refine S.sil 20 rfl rfl (fun _ hF => .fieldAddr lay42 rfl rfl (lk 5 rfl rfl)) ?_
    obtain ⟨v6, ev6, h⟩ := h.nam
    refine S.effN rfl rfl (.nf (H2 := [.cells (E_TField v6), .cells (.st [V.str (default : ByteArray), (V.int .i64) 0, (V.int .i64) 0, E_TCounter (default : TCounter), E_TLock (default : TLock), .nils]), .dead]) (.storeP sz39 (lk 0 rfl rfl) (lk 1 rfl rfl) rfl (.refl _) rfl (.st rfl (flL_c (show flen _ = 1 from rfl) (flL_c (show flen _ = 1 from rfl) (flL_c (show flen _ = 1 from rfl) (flL_c (ty_TCounter.fl a1.Counter) flL_nil)))) .nil) (by first | rfl | omega) (.st rfl .nil rfl) (ty_TLock.fl r5.1) (ty_TLock.fl a1.Lock) (congrArg (fun z => ([AObj.cells (E_TField z), .cells (.st [V.str (default : ByteArray), (V.int .i64) 0, (V.int .i64) 0, E_TCounter (default : TCounter), E_TLock (default : TLock), .nils]), .dead] : List AObj)) ev6.symm)) rfl rfl) trivial ?_
    refine S.nil ?_
    refine thenQ_n ?_
    refine AWp.seq ?_
    refine W.reg [0, 1, 2, 3, 4, 5, 6] rfl ?_
    refine S.qui 21 rfl rfl (fun _ => .loadP sz42 ag42 (lk 6 rfl rfl) rfl .nil (by first | rfl | omega) (ty_TField.fl v6) rfl) ?_
    refine S.sil 22 rfl rfl (fun _ hF => .move (lk 3 rfl rfl)) ?_
    obtain ⟨r7, m7, h⟩ := h.bnd
    refine S.sil 23 rfl rfl (fun _ hF => .callQ ent116 cF (.c (lk 1 rfl rfl) (V.sub.refl _) (.c (lk 0 rfl rfl) (V.sub.refl _) .nil)) (C_field_done m7)) ?_
    refine S.sil 24 rfl rfl (fun _ hF => .extract (lk 0 rfl rfl) rfl) ?_
    refine S.sil 25 rfl rfl (fun _ hF => .extract (lk 1 rfl rfl) rfl) ?_
    refine S.effN rfl rfl (.nf (H2 := [.cells (E_TField v6), .cells (E_TField r7.1), .dead]) (.storeP sz42 (lk 10 rfl rfl) (lk 1 rfl rfl) rfl (.refl _) rfl .nil (by first | rfl | omega) .nil (ty_TField.fl r7.1) (fl_st (flL_c (show flen _ = 1 from rfl) (flL_c (show flen _ = 1 from rfl) (flL_c (show flen _ = 1 from rfl) (flL_c (ty_TCounter.fl (default : TCounter)) (flL_c (ty_TLock.fl (default : TLock)) (flL_c (show flen _ = 1 from rfl) flL_nil))))))) rfl) rfl rfl) trivial ?_
    refine S.sil 5 rfl rfl (fun _ hF => .assign (lk 0 rfl rfl)) ?_
    refine S.nil ?_
    refine thenQ_n ?_
    refine AWp.prune (.eq (lk 0 rfl rfl) rfl (.eq (lk 11 rfl rfl) rfl .nil)) ?_
    refine AWp.ret ?_
    refine endF_wk (Wk.freeze 1 rfl rfl (.same (lk 0 rfl rfl) (.cons (lk 1 rfl rfl) rfl (.ptr .nil (by first | rfl | omega)) .nil)) (.refl _)) ?_
    obtain rfl := h.ret
    exact endFN rfl (Wk.selS [] .nil rfl (SelE.leaf (lk 1 rfl rfl) rfl (.refl _) (fun m => (lt_cptr (ty_TField.lt _ _))) (SelE.leaf (lk 0 rfl rfl) rfl (.refl _) (fun m => ((TyOk.int .i64).lt _ _)) .nil)) .nil) (.cons (.cellC sz42 ag42 (lk 0 rfl rfl) (ty_TField.fl _) rfl) (.cons (.tmp (lk 1 rfl rfl) rfl) .nil)) rfl rfl rfl
theorem C_field_Pass {a1 : TField} {a2 : Int} {a3 : Int} {r : TField × Int} (h : field_Pass a1 a2 a3 = some r) : PureC Pg 30 [E_TField a1, (V.int .i64) a2, (V.int .i64) a3] (.tup [E_TField r.1, (V.int .i64) r.2]) := by
  refine PureC.ofF (CallSpec.of_bodyF 13 0 fn30 rfl rfl rfl (Nat.le_of_ble_eq_true rfl) ?_) (ltL_c (ty_TField.lt _ _) (ltL_c ((TyOk.int .i64).lt _ _) (ltL_c ((TyOk.int .i64).lt _ _) ltL_nil))) (lt_tup (ltL_c (ty_TField.lt _ _) (ltL_c ((TyOk.int .i64).lt _ _) ltL_nil)))
  replace h := Ok.of h
  unfold field_Pass at h
  refine AWp.seq ?_
  refine W.reg [0, 1, 2, 3, 4] rfl ?_
  refine S.eff 3 rfl rfl (.nf (v2 := .ptr 0 [] 0) (H2 := [.cells (E_TField a1)]) (.box (lk 0 rfl rfl) rfl) rfl rfl) trivial ?_
  refine S.eff 4 rfl rfl (.nf (v2 := .ptr 1 [] 0) (H2 := [.cells (E_TField a1), .cells ((V.int .i64) a2)]) (.box (lk 2 rfl rfl) rfl) rfl rfl) trivial ?_
  refine S.eff 5 rfl rfl (.nf (v2 := .ptr 2 [] 0) (H2 := [.cells (E_TField a1), .cells ((V.int .i64) a2), .cells ((V.int .i64) a3)]) (.box (lk 4 rfl rfl) rfl) rfl rfl) trivial ?_
  refine S.eff 6 rfl rfl (.nf (v2 := .ptr 3 [] 0) (H2 := [.cells (E_TField a1), .cells ((V.int .i64) a2), .cells ((V.int .i64) a3), .cells (.st [V.str (default : ByteArray), (V.int .i64) 0, (V.int .i64) 0, E_TCounter (default : TCounter), E_TLock (default : TLock), .nils])]) (.alloc zv42) rfl rfl) trivial ?_
  refine S.sil 7 rfl rfl (fun _ hF => .assign cI) ?_
  refine S.nil ?_
  refine thenQ_n ?_
  refine AWp.wk (Wk.freeze 0 rfl rfl (.same (lk 0 rfl rfl) (.same (lk 1 rfl rfl) (.same (lk 2 rfl rfl) (.same (lk 3 rfl rfl) (.cons (lk 4 rfl rfl) rfl (.ptr .nil (by first | rfl | omega)) .nil))))) (.refl _)) ?_
  refine AWp.wk (Wk.freeze 1 rfl rfl (.same (lk 0 rfl rfl) (.same (lk 1 rfl rfl) (.same (lk 2 rfl rfl) (.cons (lk 3 rfl rfl) rfl (.ptr .nil (by first | rfl | omega)) (.same (lk 4 rfl rfl) .nil))))) (.refl _)) ?_
  refine AWp.wk (Wk.freeze 2 rfl rfl (.same (lk 0 rfl rfl) (.same (lk 1 rfl rfl) (.cons (lk 2 rfl rfl) rfl (.ptr .nil (by first | rfl | omega)) (.same (lk 3 rfl rfl) (.same (lk 4 rfl rfl) .nil))))) (.refl _)) ?_
  refine AWp.seq ?_
  refine W.reg [0, 1, 2, 3, 4, 5, 6] rfl ?_
  refine S.sil 8 rfl rfl (fun _ hF => .loadC sz42 ag42 (lk 4 rfl rfl) (ty_TField.fl a1) rfl) ?_
  refine S.sil 9 rfl rfl (fun _ hF => .makeFunc rfl (mapE2 (lk 4 rfl rfl) (lk 3 rfl rfl)) rfl rfl) ?_
  obtain ⟨r4, m4, h⟩ := h.bnd
  refine S.sil 10 rfl rfl (fun _ hF => .callQ ent86 cF (.c (lk 1 rfl rfl) (V.sub.refl _) (.c (lk 0 rfl rfl) (V.sub.refl _) .nil)) (C_field_locked_Pass_1 m4)) ?_
  refine S.sil 11 rfl rfl (fun _ hF => .extract (lk 0 rfl rfl) rfl) ?_
  refine S.sil 12 rfl rfl (fun _ hF => .extract (lk 1 rfl rfl) rfl) ?_
  refine S.effN rfl rfl (.nf (H2 := [.dead, .dead, .dead, .cells (E_TField r4.1)]) (.storeP sz42 (lk 6 rfl rfl) (lk 1 rfl rfl) rfl (.refl _) rfl .nil (by first | rfl | omega) .nil (ty_TField.fl r4.1) (fl_st (flL_c (show flen _ = 1 from rfl) (flL_c (show flen _ = 1 from rfl) (flL_c (show flen _ = 1 from rfl) (flL_c (ty_TCounter.fl (default : TCounter)) (flL_c (ty_TLock.fl (default : TLock)) (flL_c (show flen _ = 1 from rfl) flL_nil))))))) rfl) rfl rfl) trivial ?_
  refine S.sil 7 rfl rfl (fun _ hF => .assign (lk 0 rfl rfl)) ?_
  refine S.nil ?_
  refine thenQ_n ?_
  refine AWp.ret ?_
  refine endF_wk (Wk.freeze 3 rfl rfl (.same (lk 0 rfl rfl) (.same (lk 0 rfl rfl) (.cons (lk 7 rfl rfl) rfl (.ptr .nil (by first | rfl | omega)) .nil))) (.refl _)) ?_
  obtain rfl := h.ret
  exact endFN rfl (Wk.selS [] .nil rfl (SelE.leaf (lk 2 rfl rfl) rfl (.refl _) (fun m => (lt_cptr (ty_TField.lt _ _))) (SelE.leaf (lk 0 rfl rfl) rfl (.refl _) (fun m => ((TyOk.int .i64).lt _ _)) .nil)) .nil) (.cons (.cellC sz42 ag42 (lk 0 rfl rfl) (ty_TField.fl _) rfl) (.cons (.tmp (lk 1 rfl rfl) rfl) .nil)) rfl rfl rfl
theorem C_vec_Join {a1 : Vector Int 16} {a2 : Vector Int 16} {r : (Vector Int 16)} (h : vec_Join a1 a2 = some r) : PureC Pg 190 [E_A16_i64 a1, E_A16_i64 a2] (E_A16_i64 r) := by
  refine PureC.ofF (CallSpec.of_bodyF 20 0 fn190 rfl rfl rfl (Nat.le_of_ble_eq_true rfl) ?_) (ltL_c (ty_A16_i64.lt _ _) (ltL_c (ty_A16_i64.lt _ _) ltL_nil)) (ty_A16_i64.lt _ _)
  replace h := Ok.of h
  unfold vec_Join at h
  refine AWp.seq ?_
  refine W.reg [0, 1, 2] rfl ?_
  refine S.eff 2 rfl rfl (.nf (v2 := .ptr 0 [] 0) (H2 := [.cells (E_A16_i64 a1)]) (.box (lk 0 rfl rfl) rfl) rfl rfl) trivial ?_
  refine S.eff 3 rfl rfl (.nf (v2 := .ptr 1 [] 0) (H2 := [.cells (E_A16_i64 a1), .cells (E_A16_i64 a2)]) (.box (lk 2 rfl rfl) rfl) rfl rfl) trivial ?_
  refine S.eff 4 rfl rfl (.nf (v2 := .ptr 2 [] 0) (H2 := [.cells (E_A16_i64 a1), .cells (E_A16_i64 a2), .cells (E_A16_i64 (default : Vector Int 16))]) (.alloc zv32) rfl rfl) trivial ?_
  refine S.nil ?_
  refine thenQ_n ?_
  refine AWp.wk (Wk.freeze 1 rfl rfl (.same (lk 0 rfl rfl) (.cons (lk 1 rfl rfl) rfl (.ptr .nil (by first | rfl | omega)) (.same (lk 2 rfl rfl) .nil))) (.refl _)) ?_
  refine AWp.seq ?_
  refine AWp.seq ?_
  refine W.reg [0] rfl ?_
  refine S.sil 6 rfl rfl (fun _ hF => .move cI) ?_
  refine S.nil ?_
  refine thenQ_n ?_
  refine AWp.cutX (fun x5 => ⟨[(4, .ptr 0 [] 0), (2, .ptr 1 [] 0)], [.cells (E_A16_i64 (default : Vector Int 16)), .cells (E_A16_i64 x5)]⟩) nc_then h (fun q3 hq3 => ?_) (fun x5 h => ?_)
  · refine AWp.block ?_
    refine AWp.loopT (fun s4 => ⟨[(6, (V.int .i64) s4.1), (4, .ptr 0 [] 0), (3, .cptr (E_A16_i64 a2)), (2, .ptr 1 [] 0)], [.cells (E_A16_i64 (default : Vector Int 16)), .cells (E_A16_i64 s4.2)]⟩) hq3 (Wk.selS [2, 0] (by decide) rfl (SelE.leaf (lk 0 rfl rfl) rfl (.refl _) (fun m => ((TyOk.int .i64).lt _ _)) (SelE.spec (lk 1 rfl rfl) rfl (.refl _) rfl rfl (SelE.leaf (lk 2 rfl rfl) rfl (.refl _) (fun m => (lt_cptr (ty_A16_i64.lt _ _))) (SelE.spec (lk 3 rfl rfl) rfl (.refl _) rfl rfl .nil)))) (.cons (lt_cells (ty_A16_i64.lt (default : Vector Int 16) _)) rfl (RSub.trans (.refl _) (.eq (ty_A16_i64.cl _ _).symm)) (.cons (lt_cells (ty_A16_i64.lt _ _)) rfl (RSub.trans (.refl _) (.eq (ty_A16_i64.cl _ _).symm)) .nil))) (fun _ s4 h3 => ?_)
    rw [vec_Join_L1] at h3
    refine AWp.seq ?_
    refine W.reg [0] rfl ?_
    refine S.sil 7 rfl rfl (fun _ hF => .lss (lk 0 rfl rfl) cI) ?_
    refine S.nil ?_
    refine thenQ_n ?_
    refine AWp.seq ?_
    refine AWp.condM (lk 0 rfl rfl) h3 (fun c1 h3 => ?_) (fun c1 h3 => ?_)
    · skip
      refine AWp.skip ?_
      refine thenQ_n ?_
      refine AWp.seq ?_
      refine AWp.block ?_
      refine AWp.seq ?_
      refine W.reg [0, 1] rfl ?_
      refine S.sil 8 rfl rfl (fun _ hF => .move (lk 1 rfl rfl)) ?_
      refine S.sil 5 rfl rfl (fun _ hF => .assign (lk 0 rfl rfl)) ?_
      refine S.nil ?_
      refine thenQ_n ?_
      refine W.regD [0, 1, 2, 3, 4, 5, 6, 7, 8, 9] mixed ?_
      refine S.sil 9 rfl rfl (fun _ hF => .move (lk 0 rfl rfl)) ?_
      refine S.sil 10 rfl rfl (fun _ hF => .move (lk 1 rfl rfl)) ?_
      obtain ⟨k6, m6, h3⟩ := h3.bnd
      refine S.sil 11 rfl rfl (fun _ hF => .ixP arr32 (lk 8 rfl rfl) (lk 0 rfl rfl) m6) ?_
      refine S.qui 12 rfl rfl (fun _ => .loadP sz3 ag3 (lk 0 rfl rfl) rfl (.vc k6 .nil) (by first | rfl | omega) rfl rfl) ?_
      refine S.sil 13 rfl rfl (fun _ hF => .move (lk 4 rfl rfl)) ?_
      obtain ⟨k7, m7, h3⟩ := h3.bnd
      refine S.sil 14 rfl rfl (fun _ hF => .ixC arr32 (lk 10 rfl rfl) (lk 0 rfl rfl) m7) ?_
      refine S.sil 15 rfl rfl (fun _ hF => .loadC sz3 ag3 (lk 0 rfl rfl) rfl rfl) ?_
      refine S.sil 16 rfl rfl (fun _ hF => .bmax (lk 3 rfl rfl) (lk 0 rfl rfl)) ?_
      obtain ⟨k8, m8, h3⟩ := h3.bnd
      refine S.sil 17 rfl rfl (fun _ hF => .ixP arr32 (lk 14 rfl rfl) (lk 7 rfl rfl) m8) ?_
      obtain ⟨v9, ev9, h3⟩ := h3.nam
      refine S.effN rfl rfl (.storeP sz3 (lk 0 rfl rfl) (lk 1 rfl rfl) rfl (.refl _) rfl (.vc k8 .nil) (by first | rfl | omega) (.vc (max (s4.2.get k6) (a2.get k7)) k8 .nil) rfl rfl (congrArg (fun z => ([.cells (E_A16_i64 (default : Vector Int 16)), AObj.cells (E_A16_i64 z)] : List AObj)) ev9.symm)) trivial ?_
      refine S.nilD (by kernel_rfl) ?_
      refine blockQ_n ?_
      refine thenQ_n ?_
      refine W.reg [0, 1] rfl ?_
      refine S.sil 18 rfl rfl (fun _ hF => .add (lk 12 rfl rfl) cI) ?_
      refine S.sil 6 rfl rfl (fun _ hF => .move (lk 0 rfl rfl)) ?_
      refine S.nil ?_
      refine thenQ_n ?_
      exact ⟨_, h3.ret, (Wk.selS [0, 1] (by decide) rfl (SelE.leaf (lk 0 rfl rfl) rfl (.refl _) (fun m => ((TyOk.int .i64).lt _ _)) (SelE.spec (lk 15 rfl rfl) rfl (.refl _) rfl rfl (SelE.leaf (lk 16 rfl rfl) rfl (.refl _) (fun m => (lt_cptr (ty_A16_i64.lt _ _))) (SelE.spec (lk 17 rfl rfl) rfl (.refl _) rfl rfl .nil)))) (.cons (lt_cells (ty_A16_i64.lt (default : Vector Int 16) _)) rfl (RSub.trans (.refl _) (.eq (ty_A16_i64.cl _ _).symm)) (.cons (lt_cells (ty_A16_i64.lt _ _)) rfl (RSub.trans (.refl _) (.eq (ty_A16_i64.cl _ _).symm)) .nil)))⟩
    · skip
      refine AWp.exit ?_
      refine thenQ_x ?_
      refine thenQ_x ?_
      refine blockQ_x ?_
      refine thenQ_n ?_
      exact ⟨_, h3.ret, (Wk.selS [0, 1] (by decide) rfl (SelE.spec (lk 2 rfl rfl) rfl (.refl _) rfl rfl (SelE.spec (lk 4 rfl rfl) rfl (.refl _) rfl rfl .nil)) (.cons (lt_cells (ty_A16_i64.lt (default : Vector Int 16) _)) rfl (RSub.trans (.refl _) (.eq (ty_A16_i64.cl _ _).symm)) (.cons (lt_cells (ty_A16_i64.lt _ _)) rfl (RSub.trans (.refl _) (.eq (ty_A16_i64.cl _ _).symm)) .nil)))⟩
  · skip
    refine thenQ_n ?_
    refine AWp.seq ?_
    refine W.reg [0, 1] rfl ?_
    refine S.qui 19 rfl rfl (fun _ => .loadP sz32 ag32 (lk 1 rfl rfl) rfl .nil (by first | rfl | omega) (ty_A16_i64.fl x5) rfl) ?_
    refine S.effN rfl rfl (.nf (H2 := [.cells (E_A16_i64 x5), .cells (E_A16_i64 x5)]) (.storeP sz32 (lk 1 rfl rfl) (lk 0 rfl rfl) rfl (.refl _) rfl .nil (by first | rfl | omega) .nil (ty_A16_i64.fl x5) (ty_A16_i64.fl (default : Vector Int 16)) rfl) rfl rfl) trivial ?_
    refine S.nil ?_
    refine thenQ_n ?_
    refine AWp.ret ?_
    refine endF_wk (Wk.freeze 0 rfl rfl (.cons (lk 1 rfl rfl) rfl (.ptr .nil (by first | rfl | omega)) .nil) (.refl _)) ?_
    obtain rfl := h.ret
    exact endF1 rfl (Wk.selS [] .nil rfl (SelE.leaf (lk 0 rfl rfl) rfl (.refl _) (fun m => (lt_cptr (ty_A16_i64.lt _ _))) .nil) .nil) (.cellC sz32 ag32 (lk 0 rfl rfl) (ty_A16_i64.fl _) rfl) rfl rfl
theorem C_rights_Join_1 {a1 : Vector Int 16} {b2 : TRights} {r : TRights} (h : rights_Join_1 a1 b2 = some r) : CallSpec Pg 189 [.ptr 0 [0] 0, E_A16_i64 a1] [.cells (E_TRights b2)] fun o H' => o = .ret (.tup []) ∧ H' = [.cells (E_TRights r)] := by
  refine CallSpec.of_bodyF 11 1 fn189 rfl rfl rfl (Nat.le_of_ble_eq_true rfl) ?_
  replace h := Ok.of h
  unfold rights_Join_1 at h
  refine AWp.seq ?_
  refine W.reg [0] rfl ?_
  refine S.eff 3 rfl rfl (.nf (v2 := .ptr 1 [] 0) (H2 := [.cells (E_TRights b2), .cells (E_A16_i64 a1)]) (.box (lk 1 rfl rfl) rfl) rfl rfl) trivial ?_
  refine S.nil ?_
  refine thenQ_n ?_
  refine AWp.wk (Wk.freeze 1 rfl rfl (.cons (lk 0 rfl rfl) rfl (.ptr .nil (by first | rfl | omega)) (.same (lk 1 rfl rfl) .nil)) (.refl _)) ?_
  refine W.regD [0, 1, 2, 3, 4, 5, 6, 7] mixed ?_
  refine S.sil 4 rfl rfl (fun _ hF => .move (lk 1 rfl rfl)) ?_
  refine S.sil 5 rfl rfl (fun _ hF => .move (lk 2 rfl rfl)) ?_
  refine S.sil 6 rfl rfl (fun _ hF => .nilCheck (lk 0 rfl rfl) rfl) ?_
  refine S.qui 7 rfl rfl (fun _ => .loadP sz32 ag32 (lk 0 rfl rfl) rfl (.st rfl flL_nil .nil) (by first | rfl | omega) (ty_A16_i64.fl b2.Given) rfl) ?_
  refine S.sil 8 rfl rfl (fun _ hF => .loadC sz32 ag32 (lk 4 rfl rfl) (ty_A16_i64.fl a1) rfl) ?_
  obtain ⟨r3, m3, h⟩ := h.bnd
  refine S.sil 9 rfl rfl (fun _ hF => .callQ ent190 cF (.c (lk 1 rfl rfl) (V.sub.refl _) (.c (lk 0 rfl rfl) (V.sub.refl _) .nil)) (C_vec_Join m3)) ?_
  refine S.sil 10 rfl rfl (fun _ hF => .nilCheck (lk 5 rfl rfl) rfl) ?_
  obtain ⟨v4, ev4, h⟩ := h.nam
  refine S.effN rfl rfl (.storeP sz32 (lk 0 rfl rfl) (lk 1 rfl rfl) rfl (.refl _) rfl (.st rfl flL_nil .nil) (by first | rfl | omega) (.st rfl .nil rfl) (ty_A16_i64.fl r3) (ty_A16_i64.fl b2.Given) (congrArg (fun z => ([AObj.cells (E_TRights z), .dead] : List AObj)) ev4.symm)) trivial ?_
  refine S.nilD (by kernel_rfl) ?_
  refine endF_n ?_
  obtain rfl := h.ret
  exact endFN rfl (Wk.selS [0] (by decide) rfl .nil (.cons (lt_cells (ty_TRights.lt _ _)) rfl (RSub.trans (.refl _) (.eq (ty_TRights.cl _ _).symm)) .nil)) .nil rfl rfl rfl
theorem C_rights_Join_1_2 {a1 : Vector Int 16} {b2 : TRights} {r : TRights} (h : rights_Join_1_2 a1 b2 = some r) : CallSpec Pg 189 [.ptr 0 [1] 16, E_A16_i64 a1] [.cells (E_TRights b2)] fun o H' => o = .ret (.tup []) ∧ H' = [.cells (E_TRights r)] := by
  refine CallSpec.of_bodyF 11 1 fn189 rfl rfl rfl (Nat.le_of_ble_eq_true rfl) ?_
  replace h := Ok.of h
  unfold rights_Join_1_2 at h
  refine AWp.seq ?_
  refine W.reg [0] rfl ?_
  refine S.eff 3 rfl rfl (.nf (v2 := .ptr 1 [] 0) (H2 := [.cells (E_TRights b2), .cells (E_A16_i64 a1)]) (.box (lk 1 rfl rfl) rfl) rfl rfl) trivial ?_
  refine S.nil ?_
  refine thenQ_n ?_
  refine AWp.wk (Wk.freeze 1 rfl rfl (.cons (lk 0 rfl rfl) rfl (.ptr .nil (by first | rfl | omega)) (.same (lk 1 rfl rfl) .nil)) (.refl _)) ?_
  refine W.regD [0, 1, 2, 3, 4, 5, 6, 7] mixed ?_
  refine S.sil 4 rfl rfl (fun _ hF => .move (lk 1 rfl rfl)) ?_
  refine S.sil 5 rfl rfl (fun _ hF => .move (lk 2 rfl rfl)) ?_
  refine S.sil 6 rfl rfl (fun _ hF => .nilCheck (lk 0 rfl rfl) rfl) ?_
  refine S.qui 7 rfl rfl (fun _ => .loadP sz32 ag32 (lk 0 rfl rfl) rfl (.st rfl (flL_c (ty_A16_i64.fl b2.Given) flL_nil) .nil) (by first | rfl | omega) (ty_A16_i64.fl b2.Used) rfl) ?_
  refine S.sil 8 rfl rfl (fun _ hF => .loadC sz32 ag32 (lk 4 rfl rfl) (ty_A16_i64.fl a1) rfl) ?_
  obtain ⟨r3, m3, h⟩ := h.bnd
  refine S.sil 9 rfl rfl (fun _ hF => .callQ ent190 cF (.c (lk 1 rfl rfl) (V.sub.refl _) (.c (lk 0 rfl rfl) (V.sub.refl _) .nil)) (C_vec_Join m3)) ?_
  refine S.sil 10 rfl rfl (fun _ hF => .nilCheck (lk 5 rfl rfl) rfl) ?_
  obtain ⟨v4, ev4, h⟩ := h.nam
  refine S.effN rfl rfl (.storeP sz32 (lk 0 rfl rfl) (lk 1 rfl rfl) rfl (.refl _) rfl (.st rfl (flL_c (ty_A16_i64.fl b2.Given) flL_nil) .nil) (by first | rfl | omega) (.st rfl .nil rfl) (ty_A16_i64.fl r3) (ty_A16_i64.fl b2.Used) (congrArg (fun z => ([AObj.cells (E_TRights z), .dead] : List AObj)) ev4.symm)) trivial ?_
  refine S.nilD (by kernel_rfl) ?_
  refine endF_n ?_
  obtain rfl := h.ret
  exact endFN rfl (Wk.selS [0] (by decide) rfl .nil (.cons (lt_cells (ty_TRights.lt _ _)) rfl (RSub.trans (.refl _) (.eq (ty_TRights.cl _ _).symm)) .nil)) .nil rfl rfl rfl
theorem C_rights_Join_1_3 {k1 : Fin 16} {a2 : Vector Int 16} {b3 : TRights} {r : TRights} (h : rights_Join_1_3 k1 a2 b3 = some r) : CallSpec Pg 189 [.ptr 0 [2, k1.val] (32 + k1.val * 16), E_A16_i64 a2] [.cells (E_TRights b3)] fun o H' => o = .ret (.tup []) ∧ H' = [.cells (E_TRights r)] := by
  refine CallSpec.of_bodyF 11 1 fn189 rfl rfl rfl (Nat.le_of_ble_eq_true rfl) ?_
  replace h := Ok.of h
  unfold rights_Join_1_3 at h
  refine AWp.seq ?_
  refine W.reg [0] rfl ?_
  refine S.eff 3 rfl rfl (.nf (v2 := .ptr 1 [] 0) (H2 := [.cells (E_TRights b3), .cells (E_A16_i64 a2)]) (.box (lk 1 rfl rfl) rfl) rfl rfl) trivial ?_
  refine S.nil ?_
  refine thenQ_n ?_
  refine AWp.wk (Wk.freeze 1 rfl rfl (.cons (lk 0 rfl rfl) rfl (.ptr .nil (by first | rfl | omega)) (.same (lk 1 rfl rfl) .nil)) (.refl _)) ?_
  refine W.regD [0, 1, 2, 3, 4, 5, 6, 7] mixed ?_
  refine S.sil 4 rfl rfl (fun _ hF => .move (lk 1 rfl rfl)) ?_
  refine S.sil 5 rfl rfl (fun _ hF => .move (lk 2 rfl rfl)) ?_
  refine S.sil 6 rfl rfl (fun _ hF => .nilCheck (lk 0 rfl rfl) rfl) ?_
  obtain ⟨v4, ev4, h⟩ := h.nam
  refine S.qui 7 rfl rfl (fun _ => .nv (.loadP sz32 ag32 (lk 0 rfl rfl) rfl (.st rfl (flL_c (ty_A16_i64.fl b3.Given) (flL_c (ty_A16_i64.fl b3.Used) flL_nil)) (.vc k1 .nil)) (by first | rfl | omega) (ty_A16_i64.fl (b3.Moved.get k1)) rfl) (congrArg E_A16_i64 ev4.symm)) ?_
  refine S.sil 8 rfl rfl (fun _ hF => .loadC sz32 ag32 (lk 4 rfl rfl) (ty_A16_i64.fl a2) rfl) ?_
  obtain ⟨r5, m5, h⟩ := h.bnd
  refine S.sil 9 rfl rfl (fun _ hF => .callQ ent190 cF (.c (lk 1 rfl rfl) (V.sub.refl _) (.c (lk 0 rfl rfl) (V.sub.refl _) .nil)) (C_vec_Join m5)) ?_
  refine S.sil 10 rfl rfl (fun _ hF => .nilCheck (lk 5 rfl rfl) rfl) ?_
  obtain ⟨v6, ev6, h⟩ := h.nam
  refine S.effN rfl rfl (.storeP sz32 (lk 0 rfl rfl) (lk 1 rfl rfl) rfl (.refl _) rfl (.st rfl (flL_c (ty_A16_i64.fl b3.Given) (flL_c (ty_A16_i64.fl b3.Used) flL_nil)) (.vc k1 .nil)) (by first | rfl | omega) (.st rfl (.vc r5 k1 .nil) rfl) (ty_A16_i64.fl r5) (ty_A16_i64.fl (b3.Moved.get k1)) (congrArg (fun z => ([AObj.cells (E_TRights z), .dead] : List AObj)) ev6.symm)) trivial ?_
  refine S.nilD (by kernel_rfl) ?_
  refine endF_n ?_
  obtain rfl := h.ret
  exact endFN rfl (Wk.selS [0] (by decide) rfl .nil (.cons (lt_cells (ty_TRights.lt _ _)) rfl (RSub.trans (.refl _) (.eq (ty_TRights.cl _ _).symm)) .nil)) .nil rfl rfl rfl
theorem C_rights_Join {a1 : TRights} {a2 : TRights} {r : TRights} (h : rights_Join a1 a2 = some r) : PureC Pg 131 [E_TRights a1, E_TRights a2] (E_TRights r) := by
  refine PureC.ofF (CallSpec.of_bodyF 31 0 fn131 rfl rfl rfl (Nat.le_of_ble_eq_true rfl) ?_) (ltL_c (ty_TRights.lt _ _) (ltL_c (ty_TRights.lt _ _) ltL_nil)) (ty_TRights.lt _ _)
  replace h := Ok.of h
  unfold rights_Join at h
  refine AWp.seq ?_
  refine W.reg [0, 1, 2] rfl ?_
  refine S.eff 2 rfl rfl (.nf (v2 := .ptr 0 [] 0) (H2 := [.cells (E_TRights a1)]) (.box (lk 0 rfl rfl) rfl) rfl rfl) trivial ?_
  refine S.eff 3 rfl rfl (.nf (v2 := .ptr 1 [] 0) (H2 := [.cells (E_TRights a1), .cells (E_TRights a2)]) (.box (lk 2 rfl rfl) rfl) rfl rfl) trivial ?_
  refine S.eff 4 rfl rfl (.nf (v2 := .ptr 2 [] 0) (H2 := [.cells (E_TRights a1), .cells (E_TRights a2), .cells (E_TRights (default : TRights))]) (.alloc zv35) rfl rfl) trivial ?_
  refine S.nil ?_
  refine thenQ_n ?_
  refine AWp.wk (Wk.freeze 1 rfl rfl (.same (lk 0 rfl rfl) (.cons (lk 1 rfl rfl) rfl (.ptr .nil (by first | rfl | omega)) (.same (lk 2 rfl rfl) .nil))) (.refl _)) ?_
  refine AWp.seq ?_
  refine W.reg [0] rfl ?_
  refine S.sil 5 rfl rfl (fun _ hF => .assign cF) ?_
  refine S.nil ?_
  refine thenQ_n ?_
  refine AWp.seq ?_
  refine W.reg [0, 1, 2, 3, 4] rfl ?_
  refine S.sil 7 rfl rfl (fun _ hF => .move (lk 0 rfl rfl)) ?_
  refine S.sil 8 rfl rfl (fun _ hF => .fieldAddr lay35 rfl rfl (lk 4 rfl rfl)) ?_
  refine S.sil 9 rfl rfl (fun _ hF => .fieldAddrC lay35 rfl rfl (lk 4 rfl rfl) rfl flL_nil) ?_
  refine S.sil 10 rfl rfl (fun _ hF => .loadC sz32 ag32 (lk 0 rfl rfl) (ty_A16_i64.fl a2.Given) rfl) ?_
  obtain ⟨r3, m3, h⟩ := h.bnd
  refine S.eff 11 rfl rfl (.nf (H2 := [.cells (E_TRights r3), .dead, .cells (E_TRights (default : TRights))]) (.callH ent189 (lk 3 rfl rfl) [0] (C_rights_Join_1 m3) (by decide) (.cons (lt_cells (ty_TRights.lt _ _)) rfl (RSub.trans (.refl _) (.eq (ty_TRights.cl _ _).symm)) .nil) (ltL_c rfl (ltL_c (ty_A16_i64.lt _ _) ltL_nil)) (.c (lk 2 rfl rfl) (subren rfl) (.c (lk 0 rfl rfl) (vsubr (V.sub.refl _) (ty_A16_i64.lt _ _)) .nil)) (ren_tup rfl) (mapc (ren_cells (ty_TRights.cl _ _)) rfl) rfl) rfl rfl) trivial ?_
  refine S.nil ?_
  refine thenQ_n ?_
  refine AWp.seq ?_
  refine W.reg [0, 1, 2, 3, 4] rfl ?_
  refine S.sil 12 rfl rfl (fun _ hF => .move (lk 5 rfl rfl)) ?_
  refine S.sil 13 rfl rfl (fun _ hF => .fieldAddr lay35 rfl rfl (lk 9 rfl rfl)) ?_
  refine S.sil 14 rfl rfl (fun _ hF => .fieldAddrC lay35 rfl rfl (lk 9 rfl rfl) rfl (flL_c (ty_A16_i64.fl a2.Given) flL_nil)) ?_
  refine S.sil 15 rfl rfl (fun _ hF => .loadC sz32 ag32 (lk 0 rfl rfl) (ty_A16_i64.fl a2.Used) rfl) ?_
  obtain ⟨r4, m4, h⟩ := h.bnd
  refine S.eff 16 rfl rfl (.nf (H2 := [.cells (E_TRights r4), .dead, .cells (E_TRights (default : TRights))]) (.callH ent189 (lk 3 rfl rfl) [0] (C_rights_Join_1_2 m4) (by decide) (.cons (lt_cells (ty_TRights.lt _ _)) rfl (RSub.trans (.refl _) (.eq (ty_TRights.cl _ _).symm)) .nil) (ltL_c rfl (ltL_c (ty_A16_i64.lt _ _) ltL_nil)) (.c (lk 2 rfl rfl) (subren rfl) (.c (lk 0 rfl rfl) (vsubr (V.sub.refl _) (ty_A16_i64.lt _ _)) .nil)) (ren_tup rfl) (mapc (ren_cells (ty_TRights.cl _ _)) rfl) rfl) rfl rfl) trivial ?_
  refine S.nil ?_
  refine thenQ_n ?_
  refine AWp.prune (.eq (lk 10 rfl rfl) rfl (.eq (lk 11 rfl rfl) rfl (.eq (lk 12 rfl rfl) rfl (.eq (lk 13 rfl rfl) rfl .nil)))) ?_
  refine AWp.seq ?_
  refine AWp.seq ?_
  refine W.reg [0] rfl ?_
  refine S.sil 17 rfl rfl (fun _ hF => .move cI) ?_
  refine S.nil ?_
  refine thenQ_n ?_
  refine AWp.cutX (fun x7 => ⟨[(4, .ptr 0 [] 0), (2, .ptr 1 [] 0)], [.cells (E_TRights (default : TRights)), .cells (E_TRights x7)]⟩) nc_then h (fun q5 hq5 => ?_) (fun x7 h => ?_)
  · refine AWp.block ?_
    refine AWp.loopT (fun s6 => ⟨[(17, (V.int .i64) s6.1), (5, .fn 189 [] []), (4, .ptr 0 [] 0), (3, .cptr (E_TRights a2)), (2, .ptr 1 [] 0)], [.cells (E_TRights (default : TRights)), .cells (E_TRights s6.2)]⟩) hq5 (Wk.selS [2, 0] (by decide) rfl (SelE.leaf (lk 0 rfl rfl) rfl (.refl _) (fun m => ((TyOk.int .i64).lt _ _)) (SelE.leaf (lk 1 rfl rfl) rfl (.refl _) (fun m => (lt_fn ltL_nil ltL_nil)) (SelE.spec (lk 2 rfl rfl) rfl (.refl _) rfl rfl (SelE.leaf (lk 3 rfl rfl) rfl (.refl _) (fun m => (lt_cptr (ty_TRights.lt _ _))) (SelE.spec (lk 4 rfl rfl) rfl (.refl _) rfl rfl .nil))))) (.cons (lt_cells (ty_TRights.lt (default : TRights) _)) rfl (RSub.trans (.refl _) (.eq (ty_TRights.cl _ _).symm)) (.cons (lt_cells (ty_TRights.lt _ _)) rfl (RSub.trans (.refl _) (.eq (ty_TRights.cl _ _).symm)) .nil))) (fun _ s6 h5 => ?_)
    rw [rights_Join_L1] at h5
    refine AWp.seq ?_
    refine W.reg [0] rfl ?_
    refine S.sil 18 rfl rfl (fun _ hF => .lss (lk 0 rfl rfl) cI) ?_
    refine S.nil ?_
    refine thenQ_n ?_
    refine AWp.seq ?_
    refine AWp.condM (lk 0 rfl rfl) h5 (fun c1 h5 => ?_) (fun c1 h5 => ?_)
    · skip
      refine AWp.skip ?_
      refine thenQ_n ?_
      refine AWp.seq ?_
      refine AWp.block ?_
      refine AWp.seq ?_
      refine W.reg [0, 1] rfl ?_
      refine S.sil 19 rfl rfl (fun _ hF => .move (lk 1 rfl rfl)) ?_
      refine S.sil 6 rfl rfl (fun _ hF => .assign (lk 0 rfl rfl)) ?_
      refine S.nil ?_
      refine thenQ_n ?_
      refine W.regD [0, 1, 2, 3, 4, 5, 6, 7, 8] mixed ?_
      refine S.sil 20 rfl rfl (fun _ hF => .move (lk 4 rfl rfl)) ?_
      refine S.sil 21 rfl rfl (fun _ hF => .move (lk 1 rfl rfl)) ?_
      refine S.sil 22 rfl rfl (fun _ hF => .fieldAddr lay35 rfl rfl (lk 9 rfl rfl)) ?_
      obtain ⟨k8, m8, h5⟩ := h5.bnd
      refine S.sil 23 rfl rfl (fun _ hF => .ixP arr33 (lk 0 rfl rfl) (lk 1 rfl rfl) m8) ?_
      refine S.sil 24 rfl rfl (fun _ hF => .move (lk 4 rfl rfl)) ?_
      refine S.sil 25 rfl rfl (fun _ hF => .fieldAddrC lay35 rfl rfl (lk 11 rfl rfl) rfl (flL_c (ty_A16_i64.fl a2.Given) (flL_c (ty_A16_i64.fl a2.Used) flL_nil))) ?_
      obtain ⟨k9, m9, h5⟩ := h5.bnd
      refine S.sil 26 rfl rfl (fun _ hF => .ixC arr33 (lk 0 rfl rfl) (lk 1 rfl rfl) m9) ?_
      obtain ⟨v10, ev10, h5⟩ := h5.nam
      refine S.sil 27 rfl rfl (fun _ hF => .nv (.loadC sz32 ag32 (lk 0 rfl rfl) (ty_A16_i64.fl (a2.Moved.get k9)) rfl) (congrArg E_A16_i64 ev10.symm)) ?_
      obtain ⟨r11, m11, h5⟩ := h5.bnd
      refine S.eff 28 rfl rfl (.callH ent189 (lk 7 rfl rfl) [1] (C_rights_Join_1_3 m11) (by decide) (.cons (lt_cells (ty_TRights.lt _ _)) rfl (RSub.trans (.refl _) (.eq (ty_TRights.cl _ _).symm)) .nil) (ltL_c rfl (ltL_c (ty_A16_i64.lt _ _) ltL_nil)) (.c (lk 4 rfl rfl) (subren rfl) (.c (lk 0 rfl rfl) (vsubr (V.sub.refl _) (ty_A16_i64.lt _ _)) .nil)) (ren_tup rfl) (mapc (ren_cells (ty_TRights.cl _ _)) rfl) rfl) trivial ?_
      refine S.nilD (by kernel_rfl) ?_
      refine blockQ_n ?_
      refine thenQ_n ?_
      refine W.reg [0, 1] rfl ?_
      refine S.sil 29 rfl rfl (fun _ hF => .add (lk 12 rfl rfl) cI) ?_
      refine S.sil 17 rfl rfl (fun _ hF => .move (lk 0 rfl rfl)) ?_
      refine S.nil ?_
      refine thenQ_n ?_
      exact ⟨_, h5.ret, (Wk.selS [0, 1] (by decide) rfl (SelE.leaf (lk 0 rfl rfl) rfl (.refl _) (fun m => ((TyOk.int .i64).lt _ _)) (SelE.leaf (lk 15 rfl rfl) rfl (.refl _) (fun m => (lt_fn ltL_nil ltL_nil)) (SelE.spec (lk 16 rfl rfl) rfl (.refl _) rfl rfl (SelE.leaf (lk 17 rfl rfl) rfl (.refl _) (fun m => (lt_cptr (ty_TRights.lt _ _))) (SelE.spec (lk 18 rfl rfl) rfl (.refl _) rfl rfl .nil))))) (.cons (lt_cells (ty_TRights.lt (default : TRights) _)) rfl (RSub.trans (.refl _) (.eq (ty_TRights.cl _ _).symm)) (.cons (lt_cells (ty_TRights.lt _ _)) rfl (RSub.trans (.refl _) (.eq (ty_TRights.cl _ _).symm)) .nil)))⟩
    · skip
      refine AWp.exit ?_
      refine thenQ_x ?_
      refine thenQ_x ?_
      refine blockQ_x ?_
      refine thenQ_n ?_
      exact ⟨_, h5.ret, (Wk.selS [0, 1] (by decide) rfl (SelE.spec (lk 3 rfl rfl) rfl (.refl _) rfl rfl (SelE.spec (lk 5 rfl rfl) rfl (.refl _) rfl rfl .nil)) (.cons (lt_cells (ty_TRights.lt (default : TRights) _)) rfl (RSub.trans (.refl _) (.eq (ty_TRights.cl _ _).symm)) (.cons (lt_cells (ty_TRights.lt _ _)) rfl (RSub.trans (.refl _) (.eq (ty_TRights.cl _ _).symm)) .nil)))⟩
  · skip
    refine thenQ_n ?_
    refine AWp.seq ?_
    refine W.reg [0, 1] rfl ?_
    refine S.qui 30 rfl rfl (fun _ => .loadP sz35 ag35 (lk 1 rfl rfl) rfl .nil (by first | rfl | omega) (ty_TRights.fl x7) rfl) ?_
    refine S.effN rfl rfl (.nf (H2 := [.cells (E_TRights x7), .cells (E_TRights x7)]) (.storeP sz35 (lk 1 rfl rfl) (lk 0 rfl rfl) rfl (.refl _) rfl .nil (by first | rfl | omega) .nil (ty_TRights.fl x7) (ty_TRights.fl (default : TRights)) rfl) rfl rfl) trivial ?_
    refine S.nil ?_
    refine thenQ_n ?_
    refine AWp.ret ?_
    refine endF_wk (Wk.freeze 0 rfl rfl (.cons (lk 1 rfl rfl) rfl (.ptr .nil (by first | rfl | omega)) .nil) (.refl _)) ?_
    obtain rfl := h.ret
    exact endF1 rfl (Wk.selS [] .nil rfl (SelE.leaf (lk 0 rfl rfl) rfl (.refl _) (fun m => (lt_cptr (ty_TRights.lt _ _))) .nil) .nil) (.cellC sz35 ag35 (lk 0 rfl rfl) (ty_TRights.fl _) rfl) rfl rfl
theorem C_counter_Join {a1 : TCounter} {a2 : TCounter} {r : TCounter × Int} (h : counter_Join a1 a2 = some r) : PureC Pg 57 [E_TCounter a1, E_TCounter a2] (.tup [E_TCounter r.1, (V.int .i64) r.2]) := by
  refine PureC.ofF (CallSpec.of_bodyF 39 0 fn57 rfl rfl rfl (Nat.le_of_ble_eq_true rfl) ?_) (ltL_c (ty_TCounter.lt _ _) (ltL_c (ty_TCounter.lt _ _) ltL_nil)) (lt_tup (ltL_c (ty_TCounter.lt _ _) (ltL_c ((TyOk.int .i64).lt _ _) ltL_nil)))
  replace h := Ok.of h
  unfold counter_Join at h
  refine AWp.seq ?_
  refine W.reg [0, 1, 2, 3] rfl ?_
  refine S.eff 2 rfl rfl (.nf (v2 := .ptr 0 [] 0) (H2 := [.cells (E_TCounter a1)]) (.box (lk 0 rfl rfl) rfl) rfl rfl) trivial ?_
  refine S.eff 3 rfl rfl (.nf (v2 := .ptr 1 [] 0) (H2 := [.cells (E_TCounter a1), .cells (E_TCounter a2)]) (.box (lk 2 rfl rfl) rfl) rfl rfl) trivial ?_
  refine S.eff 4 rfl rfl (.nf (v2 := .ptr 2 [] 0) (H2 := [.cells (E_TCounter a1), .cells (E_TCounter a2), .cells (E_TCounter (default : TCounter))]) (.alloc zv37) rfl rfl) trivial ?_
  refine S.sil 5 rfl rfl (fun _ hF => .assign cI) ?_
  refine S.nil ?_
  refine thenQ_n ?_
  refine AWp.wk (Wk.freeze 1 rfl rfl (.same (lk 0 rfl rfl) (.same (lk 1 rfl rfl) (.cons (lk 2 rfl rfl) rfl (.ptr .nil (by first | rfl | omega)) (.same (lk 3 rfl rfl) .nil)))) (.refl _)) ?_
  refine AWp.seq ?_
  refine AWp.seq ?_
  refine W.reg [0, 1, 2, 3, 4, 5, 6, 7, 8, 9, 10, 11, 12, 13, 14, 15, 16, 17, 18] rfl ?_
  refine S.sil 6 rfl rfl (fun _ hF => .fieldAddr lay37 rfl rfl (lk 3 rfl rfl)) ?_
  refine S.qui 7 rfl rfl (fun _ => .loadP sz3 ag3 (lk 0 rfl rfl) rfl (.st rfl flL_nil .nil) (by first | rfl | omega) rfl rfl) ?_
  refine S.sil 8 rfl rfl (fun _ hF => .fieldAddrC lay37 rfl rfl (lk 4 rfl rfl) rfl flL_nil) ?_
  refine S.sil 9 rfl rfl (fun _ hF => .loadC sz3 ag3 (lk 0 rfl rfl) rfl rfl) ?_
  refine S.sil 10 rfl rfl (fun _ hF => .neq (lk 2 rfl rfl) (lk 0 rfl rfl)) ?_
  refine S.sil 11 rfl rfl (fun _ hF => .move (lk 0 rfl rfl)) ?_
  refine S.gsil 12 5 11 false rfl rfl rfl (lk 0 rfl rfl) (fun hB _ hF => .fieldAddr lay37 rfl rfl (lk 9 rfl rfl)) ?_
  refine S.gqui 13 5 11 false rfl rfl rfl (lk 1 rfl rfl) (fun hB _ => .loadP sz3 ag3 (ifT hB (lk 0 rfl rfl)) rfl (.st rfl (flL_c (show flen _ = 1 from rfl) flL_nil) .nil) (by first | rfl | omega) rfl rfl) ?_
  refine S.gsil 14 5 11 false rfl rfl rfl (lk 2 rfl rfl) (fun hB _ hF => .fieldAddrC lay37 rfl rfl (lk 10 rfl rfl) rfl (flL_c (show flen _ = 1 from rfl) flL_nil)) ?_
  refine S.gsil 15 5 11 false rfl rfl rfl (lk 3 rfl rfl) (fun hB _ hF => .loadC sz3 ag3 (ifT hB (lk 0 rfl rfl)) rfl rfl) ?_
  refine S.gsil 16 5 11 false rfl rfl rfl (lk 4 rfl rfl) (fun hB _ hF => .neq (ifT hB (lk 2 rfl rfl)) (ifT hB (lk 0 rfl rfl))) ?_
  refine S.sil 17 rfl rfl (fun _ hF => .pickOr (lk 5 rfl rfl) cB (fun h => ifT h (lk 0 rfl rfl))) ?_
  refine S.sil 18 rfl rfl (fun _ hF => .move (lk 0 rfl rfl)) ?_
  refine S.gsil 19 12 18 false rfl rfl rfl (lk 0 rfl rfl) (fun hB _ hF => .fieldAddr lay37 rfl rfl (lk 16 rfl rfl)) ?_
  refine S.gqui 20 12 18 false rfl rfl rfl (lk 1 rfl rfl) (fun hB _ => .loadP sz3 ag3 (ifT hB (lk 0 rfl rfl)) rfl (.st rfl (flL_c (show flen _ = 1 from rfl) (flL_c (show flen _ = 1 from rfl) flL_nil)) .nil) (by first | rfl | omega) rfl rfl) ?_
  refine S.gsil 21 12 18 false rfl rfl rfl (lk 2 rfl rfl) (fun hB _ hF => .fieldAddrC lay37 rfl rfl (lk 17 rfl rfl) rfl (flL_c (show flen _ = 1 from rfl) (flL_c (show flen _ = 1 from rfl) flL_nil))) ?_
  refine S.gsil 22 12 18 false rfl rfl rfl (lk 3 rfl rfl) (fun hB _ hF => .loadC sz3 ag3 (ifT hB (lk 0 rfl rfl)) rfl rfl) ?_
  refine S.gsil 23 12 18 false rfl rfl rfl (lk 4 rfl rfl) (fun hB _ hF => .neq (ifT hB (lk 2 rfl rfl)) (ifT hB (lk 0 rfl rfl))) ?_
  obtain ⟨v3, ev3, h⟩ := h.nam
  refine S.sil 24 rfl rfl (fun _ hF => .nv (.pickOr (lk 5 rfl rfl) cB (fun h => ifT h (lk 0 rfl rfl))) (congrArg V.bool ev3.symm)) ?_
  refine S.nil ?_
  refine thenQ_n ?_
  refine AWp.prune (.eq (lk 0 rfl rfl) rfl (.eq (lk 19 rfl rfl) rfl (.eq (lk 20 rfl rfl) rfl (.eq (lk 21 rfl rfl) rfl (.eq (lk 22 rfl rfl) rfl .nil))))) ?_
  refine AWp.condM (lk 0 rfl rfl) h (fun c1 h => ?_) (fun c1 h => ?_)
  · skip
    refine AWp.seq ?_
    refine W.reg [0, 1, 2] rfl ?_
    obtain ⟨v4, ev4, h⟩ := h.nam
    refine S.sil 25 rfl rfl (fun _ hF => .nv (.nv (v2 := E_TCounter (⟨0, 0, 0, (default : TRights), (default : TRights)⟩ : TCounter)) (.buildStW lay37 zv37 rfl .nil) rfl) (congrArg E_TCounter ev4.symm)) ?_
    refine S.effN rfl rfl (.nf (H2 := [.cells (E_TCounter a1), .dead, .cells (E_TCounter v4)]) (.storeP sz37 (lk 3 rfl rfl) (lk 0 rfl rfl) rfl (.refl _) rfl .nil (by first | rfl | omega) .nil (ty_TCounter.fl v4) (ty_TCounter.fl (default : TCounter)) rfl) rfl rfl) trivial ?_
    refine S.sil 5 rfl rfl (fun _ hF => .assign cI) ?_
    refine S.nil ?_
    refine thenQ_n ?_
    refine AWp.ret ?_
    refine thenQ_r ?_
    refine endF_wk (Wk.freeze 2 rfl rfl (.same (lk 0 rfl rfl) (.same (lk 0 rfl rfl) (.cons (lk 4 rfl rfl) rfl (.ptr .nil (by first | rfl | omega)) .nil))) (.refl _)) ?_
    obtain rfl := h.ret
    exact endFN rfl (Wk.selS [] .nil rfl (SelE.leaf (lk 2 rfl rfl) rfl (.refl _) (fun m => (lt_cptr (ty_TCounter.lt _ _))) (SelE.leaf (lk 0 rfl rfl) rfl (.refl _) (fun m => ((TyOk.int .i64).lt _ _)) .nil)) .nil) (.cons (.cellC sz37 ag37 (lk 0 rfl rfl) (ty_TCounter.fl _) rfl) (.cons (.tmp (lk 1 rfl rfl) rfl) .nil)) rfl rfl rfl
  · skip
    refine AWp.skip ?_
    refine thenQ_n ?_
    refine AWp.seq ?_
    refine W.regD [0, 1, 2, 3, 4, 5, 6, 7, 8, 9, 10, 11, 12, 13] mixed ?_
    refine S.sil 26 rfl rfl (fun _ hF => .fieldAddr lay37 rfl rfl (lk 4 rfl rfl)) ?_
    refine S.qui 27 rfl rfl (fun _ => .loadP sz35 ag35 (lk 0 rfl rfl) rfl (.st rfl (flL_c (show flen _ = 1 from rfl) (flL_c (show flen _ = 1 from rfl) (flL_c (show flen _ = 1 from rfl) flL_nil))) .nil) (by first | rfl | omega) (ty_TRights.fl a1.Down) rfl) ?_
    refine S.sil 28 rfl rfl (fun _ hF => .fieldAddrC lay37 rfl rfl (lk 5 rfl rfl) rfl (flL_c (show flen _ = 1 from rfl) (flL_c (show flen _ = 1 from rfl) (flL_c (show flen _ = 1 from rfl) flL_nil)))) ?_
    refine S.sil 29 rfl rfl (fun _ hF => .loadC sz35 ag35 (lk 0 rfl rfl) (ty_TRights.fl a2.Down) rfl) ?_
    obtain ⟨r5, m5, h⟩ := h.bnd
    refine S.sil 30 rfl rfl (fun _ hF => .callQ ent131 cF (.c (lk 2 rfl rfl) (V.sub.refl _) (.c (lk 0 rfl rfl) (V.sub.refl _) .nil)) (C_rights_Join m5)) ?_
    refine S.sil 31 rfl rfl (fun _ hF => .fieldAddr lay37 rfl rfl (lk 9 rfl rfl)) ?_
    refine S.qui 32 rfl rfl (fun _ => .loadP sz35 ag35 (lk 0 rfl rfl) rfl (.st rfl (flL_c (show flen _ = 1 from rfl) (flL_c (show flen _ = 1 from rfl) (flL_c (show flen _ = 1 from rfl) (flL_c (ty_TRights.fl a1.Down) flL_nil)))) .nil) (by first | rfl | omega) (ty_TRights.fl a1.Up) rfl) ?_
    refine S.sil 33 rfl rfl (fun _ hF => .fieldAddrC lay37 rfl rfl (lk 10 rfl rfl) rfl (flL_c (show flen _ = 1 from rfl) (flL_c (show flen _ = 1 from rfl) (flL_c (show flen _ = 1 from rfl) (flL_c (ty_TRights.fl a2.Down) flL_nil))))) ?_
    refine S.sil 34 rfl rfl (fun _ hF => .loadC sz35 ag35 (lk 0 rfl rfl) (ty_TRights.fl a2.Up) rfl) ?_
    obtain ⟨r6, m6, h⟩ := h.bnd
    refine S.sil 35 rfl rfl (fun _ hF => .callQ ent131 cF (.c (lk 2 rfl rfl) (V.sub.refl _) (.c (lk 0 rfl rfl) (V.sub.refl _) .nil)) (C_rights_Join m6)) ?_
    refine S.sil 36 rfl rfl (fun _ hF => .fieldAddr lay37 rfl rfl (lk 14 rfl rfl)) ?_
    obtain ⟨v7, ev7, h⟩ := h.nam
    refine S.effN rfl rfl (.storeP sz35 (lk 0 rfl rfl) (lk 6 rfl rfl) rfl (.refl _) rfl (.st rfl (flL_c (show flen _ = 1 from rfl) (flL_c (show flen _ = 1 from rfl) (flL_c (show flen _ = 1 from rfl) flL_nil))) .nil) (by first | rfl | omega) (.st rfl .nil rfl) (ty_TRights.fl r5) (ty_TRights.fl a1.Down) (congrArg (fun z => ([AObj.cells (E_TCounter z), .dead, .cells (E_TCounter (default : TCounter))] : List AObj)) ev7.symm)) trivial ?_
    refine S.sil 37 rfl rfl (fun _ hF => .fieldAddr lay37 rfl rfl (lk 15 rfl rfl)) ?_
    obtain ⟨v8, ev8, h⟩ := h.nam
    refine S.effN rfl rfl (.storeP sz35 (lk 0 rfl rfl) (lk 2 rfl rfl) rfl (.refl _) rfl (.st rfl (flL_c (show flen _ = 1 from rfl) (flL_c (show flen _ = 1 from rfl) (flL_c (show flen _ = 1 from rfl) (flL_c (ty_TRights.fl v7.Down) flL_nil)))) .nil) (by first | rfl | omega) (.st rfl .nil rfl) (ty_TRights.fl r6) (ty_TRights.fl v7.Up) (congrArg (fun z => ([AObj.cells (E_TCounter z), .dead, .cells (E_TCounter (default : TCounter))] : List AObj)) ev8.symm)) trivial ?_
    refine S.nilD (by kernel_rfl) ?_
    refine thenQ_n ?_
    refine AWp.prune (.eq (lk 13 rfl rfl) rfl (.eq (lk 14 rfl rfl) rfl (.eq (lk 16 rfl rfl) rfl .nil))) ?_
    refine AWp.seq ?_
    refine W.reg [0, 1, 2] rfl ?_
    refine S.qui 38 rfl rfl (fun _ => .loadP sz37 ag37 (lk 2 rfl rfl) rfl .nil (by first | rfl | omega) (ty_TCounter.fl v8) rfl) ?_
    refine S.effN rfl rfl (.nf (H2 := [.cells (E_TCounter v8), .dead, .cells (E_TCounter v8)]) (.storeP sz37 (lk 2 rfl rfl) (lk 0 rfl rfl) rfl (.refl _) rfl .nil (by first | rfl | omega) .nil (ty_TCounter.fl v8) (ty_TCounter.fl (default : TCounter)) rfl) rfl rfl) trivial ?_
    refine S.sil 5 rfl rfl (fun _ hF => .assign cI) ?_
    refine S.nil ?_
    refine thenQ_n ?_
    refine AWp.ret ?_
    refine endF_wk (Wk.freeze 2 rfl rfl (.same (lk 0 rfl rfl) (.same (lk 0 rfl rfl) (.cons (lk 3 rfl rfl) rfl (.ptr .nil (by first | rfl | omega)) .nil))) (.refl _)) ?_
    obtain rfl := h.ret
    exact endFN rfl (Wk.selS [] .nil rfl (SelE.leaf (lk 2 rfl rfl) rfl (.refl _) (fun m => (lt_cptr (ty_TCounter.lt _ _))) (SelE.leaf (lk 0 rfl rfl) rfl (.refl _) (fun m => ((TyOk.int .i64).lt _ _)) .nil)) .nil) (.cons (.cellC sz37 ag37 (lk 0 rfl rfl) (ty_TCounter.fl _) rfl) (.cons (.tmp (lk 1 rfl rfl) rfl) .nil)) rfl rfl rfl
theorem C_hold_Join {a1 : List THold} {a2 : List THold} {r : (List THold) × Int} (h : hold_Join a1 a2 = some r) : PureC Pg 58 [.sl 5 .no (List.map E_THold a1), .sl 5 .no (List.map E_THold a2)] (.tup [E_S_THold r.1, (V.int .i64) r.2]) := by
  refine PureC.ofF (CallSpec.of_bodyF 101 0 fn58 rfl rfl rfl (Nat.le_of_ble_eq_true rfl) ?_) (ltL_c (lt_sl rfl (ty_THold.ltm _ _)) (ltL_c (lt_sl rfl (ty_THold.ltm _ _)) ltL_nil)) (lt_tup (ltL_c (ty_S_THold.lt _ _) (ltL_c ((TyOk.int .i64).lt _ _) ltL_nil)))
  replace h := Ok.of h
  unfold hold_Join at h
  refine AWp.seq ?_
  refine W.reg [0, 1] rfl ?_
  refine S.sil 4 rfl rfl (fun _ hF => .assign cNs) ?_
  refine S.sil 5 rfl rfl (fun _ hF => .assign cI) ?_
  refine S.nil ?_
  refine thenQ_n ?_
  refine AWp.seq ?_
  refine AWp.seq ?_
  refine W.reg [0, 1, 2, 3, 4, 5, 6, 7] rfl ?_
  refine S.sil 14 rfl rfl (fun _ hF => .move (lk 2 rfl rfl)) ?_
  obtain ⟨r3, m3, h⟩ := h.bnd
  refine S.sil 15 rfl rfl (fun _ hF => .callQ ent132 cF (.c (lk 0 rfl rfl) (V.sub.refl _) .nil) (C_hold_Rights m3)) ?_
  refine S.sil 16 rfl rfl (fun _ hF => .not (lk 0 rfl rfl)) ?_
  refine S.sil 17 rfl rfl (fun _ hF => .move (lk 0 rfl rfl)) ?_
  refine S.gsil 18 3 17 false rfl rfl rfl (lk 0 rfl rfl) (fun hB _ hF => .move (lk 7 rfl rfl)) ?_
  obtain ⟨r4, m4, h⟩ := h.bnd
  refine S.gsil 19 3 17 false rfl rfl rfl (lk 1 rfl rfl) (fun hB _ hF => .callQ ent132 cF (.c (ifT hB (lk 0 rfl rfl)) (V.sub.refl _) .nil) (C_hold_Rights (gd_get m4 hB))) ?_
  refine S.gsil 20 3 17 false rfl rfl rfl (lk 2 rfl rfl) (fun hB _ hF => .not (ifT hB (lk 0 rfl rfl))) ?_
  refine S.sil 21 rfl rfl (fun _ hF => .pickOr (lk 3 rfl rfl) cB (fun h => ifT h (lk 0 rfl rfl))) ?_
  refine S.nil ?_
  refine thenQ_n ?_
  refine AWp.condM (lk 0 rfl rfl) h (fun c1 h => ?_) (fun c1 h => ?_)
  · skip
    refine AWp.seq ?_
    refine W.reg [0, 1] rfl ?_
    refine S.sil 4 rfl rfl (fun _ hF => .assign cNs) ?_
    refine S.sil 5 rfl rfl (fun _ hF => .assign cI) ?_
    refine S.nil ?_
    refine thenQ_n ?_
    refine AWp.prune (.eq (lk 0 rfl rfl) rfl (.eq (lk 1 rfl rfl) rfl (.eq (lk 12 rfl rfl) rfl (.eq (lk 13 rfl rfl) rfl .nil)))) ?_
    refine AWp.ret ?_
    refine thenQ_r ?_
    obtain rfl := h.ret
    exact endFN rfl (Wk.selS [] .nil rfl (SelE.leaf (lk 1 rfl rfl) rfl (.nils_no _) (fun m => (ty_S_THold.lt ([] : List THold) _)) (SelE.leaf (lk 0 rfl rfl) rfl (.refl _) (fun m => ((TyOk.int .i64).lt _ _)) .nil)) .nil) (.cons (.tmp (lk 0 rfl rfl) rfl) (.cons (.tmp (lk 1 rfl rfl) rfl) .nil)) rfl rfl rfl
  · skip
    refine AWp.skip ?_
    refine thenQ_n ?_
    refine AWp.seq ?_
    refine W.reg [0, 1] rfl ?_
    refine S.eff 22 rfl rfl (.nf (v2 := .map 0) (H2 := [.map (encE E_A2_i64 (V.int .i64) (AMap.empty : AMap (Vector Int 2) Int okInts).es)]) (.makeMap) rfl rfl) trivial ?_
    refine S.sil 6 rfl rfl (fun _ hF => .assign (lk 0 rfl rfl)) ?_
    refine S.nil ?_
    refine thenQ_n ?_
    refine AWp.seq ?_
    refine W.reg [0, 1, 2] rfl ?_
    refine S.sil 23 rfl rfl (fun _ hF => .move (lk 12 rfl rfl)) ?_
    obtain ⟨l5, m5, h⟩ := h.bnd
    refine S.eff 24 rfl rfl (.nf (v2 := .slo 5 1 [] 0 0 l5.length 1) (H2 := [.map (encE E_A2_i64 (V.int .i64) (AMap.empty : AMap (Vector Int 2) Int okInts).es), .buf 5 (List.map E_THold l5)]) (.callN ent54 cF [] (C_cloneO_54 m5) .nil .nil (ltL_c (ty_S_THold.lt _ _) ltL_nil) (.c (lk 0 rfl rfl) (vsubr (V.sub.refl _) (ty_S_THold.lt _ 0)) .nil) rfl (mapc (ren_buf ty_THold _) rfl) rfl) rfl rfl) trivial ?_
    refine S.sil 7 rfl rfl (fun _ hF => .assign (lk 0 rfl rfl)) ?_
    refine S.nil ?_
    refine thenQ_n ?_
    refine AWp.prune (.eq (lk 0 rfl rfl) rfl (.eq (lk 3 rfl rfl) rfl (.eq (lk 13 rfl rfl) rfl (.eq (lk 14 rfl rfl) rfl (.eq (lk 15 rfl rfl) rfl (.eq (lk 16 rfl rfl) rfl .nil)))))) ?_
    refine AWp.seq ?_
    refine AWp.seq ?_
    refine W.reg [0, 1, 2] rfl ?_
    refine S.sil 25 rfl rfl (fun _ hF => .move (lk 4 rfl rfl)) ?_
    refine S.sil 26 rfl rfl (fun _ hF => .lenT sli40 (lk 0 rfl rfl) (vsub rfl (.refl _))) ?_
    refine S.sil 27 rfl rfl (fun _ hF => .move cI) ?_
    refine S.nil ?_
    refine thenQ_n ?_
    refine AWp.cutX (fun x8 => ⟨[(7, .slo 5 0 [] 0 0 l5.length 1), (6, .map 1), (5, (V.int .i64) 0), (4, .nils), (1, .sl 5 .no (List.map E_THold a2))], [.buf 5 (List.map E_THold l5), .map (encE E_A2_i64 (V.int .i64) x8.es)]⟩) nc_then h (fun q6 hq6 => ?_) (fun x8 h => ?_)
    · refine AWp.block ?_
      refine AWp.loopT (fun s7 => ⟨[(27, (V.int .i64) s7.1), (26, (V.int .i64) (a1.length : Int)), (25, .sl 5 .no (List.map E_THold a1)), (7, .slo 5 0 [] 0 0 l5.length 1), (6, .map 1), (5, (V.int .i64) 0), (4, .nils), (1, .sl 5 .no (List.map E_THold a2))], [.buf 5 (List.map E_THold l5), .map (encE E_A2_i64 (V.int .i64) s7.2.es)]⟩) hq6 (Wk.selS [1, 0] (by decide) rfl (SelE.leaf (lk 0 rfl rfl) rfl (.refl _) (fun m => ((TyOk.int .i64).lt _ _)) (SelE.leaf (lk 1 rfl rfl) rfl (.refl _) (fun m => ((TyOk.int .i64).lt _ _)) (SelE.leaf (lk 2 rfl rfl) rfl (.refl _) (fun m => (lt_sl rfl (ty_THold.ltm _ _))) (SelE.spec (lk 3 rfl rfl) rfl (.slo (by first | rfl | simp)) rfl rfl (SelE.spec (lk 4 rfl rfl) rfl (.refl _) rfl rfl (SelE.leaf (lk 5 rfl rfl) rfl (.refl _) (fun m => ((TyOk.int .i64).lt _ _)) (SelE.leaf (lk 6 rfl rfl) rfl (.refl _) (fun m => rfl) (SelE.leaf (lk 8 rfl rfl) rfl (.refl _) (fun m => (lt_sl rfl (ty_THold.ltm _ _))) .nil)))))))) (.cons (lt_buf ty_THold) rfl ⟨rfl, RSubL.leafr ty_THold _ rfl⟩ (.cons (lt_map ty_A2_i64 (TyOk.int .i64)) rfl (asub_map ty_A2_i64 (TyOk.int .i64) _) .nil))) (fun _ s7 h6 => ?_)
      rw [hold_Join_L1] at h6
      refine AWp.seq ?_
      refine W.reg [0] rfl ?_
      refine S.sil 28 rfl rfl (fun _ hF => .lss (lk 0 rfl rfl) (lk 1 rfl rfl)) ?_
      refine S.nil ?_
      refine thenQ_n ?_
      refine AWp.seq ?_
      refine AWp.condM (lk 0 rfl rfl) h6 (fun c2 h6 => ?_) (fun c2 h6 => ?_)
      · skip
        refine AWp.skip ?_
        refine thenQ_n ?_
        refine AWp.seq ?_
        refine AWp.block ?_
        refine AWp.seq ?_
        refine W.reg [0, 1, 2, 3, 4, 5] rfl ?_
        refine S.sil 29 rfl rfl (fun _ hF => .move (lk 1 rfl rfl)) ?_
        obtain ⟨j9, m9, h6⟩ := h6.bnd
        refine S.sil 30 rfl rfl (fun _ hF => .ixS sli40 (lk 4 rfl rfl) (lk 2 rfl rfl) m9) ?_
        obtain ⟨v10, ev10, h6⟩ := h6.nam
        refine S.sil 31 rfl rfl (fun _ hF => .nv (.loadC sz101 ag101 (lk 0 rfl rfl) (ty_THold.fl (a1.getD j9 default)) rfl) (congrArg E_THold ev10.symm)) ?_
        refine S.eff 9 rfl rfl (.nf (v2 := .ptr 2 [] 0) (H2 := [.buf 5 (List.map E_THold l5), .map (encE E_A2_i64 (V.int .i64) s7.2.es), .cells (E_THold (default : THold))]) (.alloc zv101) rfl rfl) trivial ?_
        refine S.sil 8 rfl rfl (fun _ hF => .assign (lk 3 rfl rfl)) ?_
        refine S.effN rfl rfl (.nf (H2 := [.buf 5 (List.map E_THold l5), .map (encE E_A2_i64 (V.int .i64) s7.2.es), .cells (E_THold v10)]) (.storeP sz101 (lk 1 rfl rfl) (lk 2 rfl rfl) rfl (.refl _) rfl .nil (by first | rfl | omega) .nil (ty_THold.fl v10) (ty_THold.fl (default : THold)) rfl) rfl rfl) trivial ?_
        refine S.nil ?_
        refine thenQ_n ?_
        refine AWp.wk (Wk.freeze 2 rfl rfl (.same (lk 0 rfl rfl) (.cons (lk 1 rfl rfl) rfl (.ptr .nil (by first | rfl | omega)) (.same (lk 2 rfl rfl) (.same (lk 3 rfl rfl) (.same (lk 4 rfl rfl) (.same (lk 5 rfl rfl) (.same (lk 6 rfl rfl) (.same (lk 7 rfl rfl) (.same (lk 8 rfl rfl) (.same (lk 9 rfl rfl) (.same (lk 10 rfl rfl) (.same (lk 11 rfl rfl) (.same (lk 12 rfl rfl) (.same (lk 13 rfl rfl) .nil)))))))))))))) (.refl _)) ?_
        refine W.reg [0, 1, 2, 3, 4, 5, 6, 7] rfl ?_
        refine S.sil 32 rfl rfl (fun _ hF => .move (lk 10 rfl rfl)) ?_
        refine S.sil 33 rfl rfl (fun _ hF => .fieldAddrC lay101 rfl rfl (lk 2 rfl rfl) rfl flL_nil) ?_
        refine S.sil 34 rfl rfl (fun _ hF => .loadC sz3 ag3 (lk 0 rfl rfl) rfl rfl) ?_
        refine S.sil 35 rfl rfl (fun _ hF => .fieldAddrC lay101 rfl rfl (lk 4 rfl rfl) rfl (flL_c (show flen _ = 1 from rfl) flL_nil)) ?_
        refine S.sil 36 rfl rfl (fun _ hF => .loadC sz3 ag3 (lk 0 rfl rfl) rfl rfl) ?_
        refine S.sil 37 rfl rfl (fun _ hF => .buildArrL (w := E_A2_i64 (#v[v10.Replica, v10.Number] : Vector Int 2)) arr163 zv163 (.cons (lk 2 rfl rfl) rfl rfl rfl (.cons (lk 0 rfl rfl) rfl rfl rfl .nil)) rfl rfl) ?_
        refine S.sil 38 rfl rfl (fun _ hF => .move (lk 6 rfl rfl)) ?_
        obtain ⟨p11, m11, h6⟩ := h6.bnd
        refine S.effN rfl rfl (.nf (H2 := [.buf 5 (List.map E_THold l5), .map (encE E_A2_i64 (V.int .i64) p11.es), .dead]) (.mapPutT und162 key163 kt163 ((TyOk.int .i64).ok) (lk 6 rfl rfl) (lk 1 rfl rfl) (lk 0 rfl rfl) rfl m11 rfl) rfl rfl) trivial ?_
        refine S.nil ?_
        refine blockQ_n ?_
        refine thenQ_n ?_
        refine W.reg [0, 1] rfl ?_
        refine S.sil 39 rfl rfl (fun _ hF => .add (lk 13 rfl rfl) cI) ?_
        refine S.sil 27 rfl rfl (fun _ hF => .move (lk 0 rfl rfl)) ?_
        refine S.nil ?_
        refine thenQ_n ?_
        exact ⟨_, h6.ret, (Wk.selS [0, 1] (by decide) rfl (SelE.leaf (lk 0 rfl rfl) rfl (.refl _) (fun m => ((TyOk.int .i64).lt _ _)) (SelE.leaf (lk 16 rfl rfl) rfl (.refl _) (fun m => ((TyOk.int .i64).lt _ _)) (SelE.leaf (lk 17 rfl rfl) rfl (.refl _) (fun m => (lt_sl rfl (ty_THold.ltm _ _))) (SelE.spec (lk 18 rfl rfl) rfl (.slo (by first | rfl | simp)) rfl rfl (SelE.spec (lk 19 rfl rfl) rfl (.refl _) rfl rfl (SelE.leaf (lk 20 rfl rfl) rfl (.refl _) (fun m => ((TyOk.int .i64).lt _ _)) (SelE.leaf (lk 21 rfl rfl) rfl (.refl _) (fun m => rfl) (SelE.leaf (lk 22 rfl rfl) rfl (.refl _) (fun m => (lt_sl rfl (ty_THold.ltm _ _))) .nil)))))))) (.cons (lt_buf ty_THold) rfl ⟨rfl, RSubL.leafr ty_THold _ rfl⟩ (.cons (lt_map ty_A2_i64 (TyOk.int .i64)) rfl (asub_map ty_A2_i64 (TyOk.int .i64) _) .nil)))⟩
      · skip
        refine AWp.exit ?_
        refine thenQ_x ?_
        refine thenQ_x ?_
        refine blockQ_x ?_
        refine thenQ_n ?_
        exact ⟨_, h6.ret, (Wk.selS [0, 1] (by decide) rfl (SelE.spec (lk 4 rfl rfl) rfl (.slo (by first | rfl | simp)) rfl rfl (SelE.spec (lk 5 rfl rfl) rfl (.refl _) rfl rfl (SelE.leaf (lk 6 rfl rfl) rfl (.refl _) (fun m => ((TyOk.int .i64).lt _ _)) (SelE.leaf (lk 7 rfl rfl) rfl (.refl _) (fun m => rfl) (SelE.leaf (lk 8 rfl rfl) rfl (.refl _) (fun m => (lt_sl rfl (ty_THold.ltm _ _))) .nil))))) (.cons (lt_buf ty_THold) rfl ⟨rfl, RSubL.leafr ty_THold _ rfl⟩ (.cons (lt_map ty_A2_i64 (TyOk.int .i64)) rfl (asub_map ty_A2_i64 (TyOk.int .i64) _) .nil)))⟩
    · skip
      refine thenQ_n ?_
      refine AWp.seq ?_
      refine AWp.seq ?_
      refine W.reg [0, 1, 2] rfl ?_
      refine S.sil 40 rfl rfl (fun _ hF => .move (lk 4 rfl rfl)) ?_
      refine S.sil 41 rfl rfl (fun _ hF => .lenT sli40 (lk 0 rfl rfl) (vsub rfl (.refl _))) ?_
      refine S.sil 42 rfl rfl (fun _ hF => .move cI) ?_
      refine S.nil ?_
      refine thenQ_n ?_
      refine AWp.cutL (fun x14 => ⟨[(7, .slo 5 0 [] 0 0 x14.length 1), (5, (V.int .i64) 0), (4, .nils)], [.buf 5 (List.map E_THold x14)]⟩) nc_then h (fun q12 hq12 h => ?_) (fun x14 h => ?_)
      · refine AWp.block ?_
        refine AWp.loopT (fun s13 => ⟨[(42, (V.int .i64) s13.1), (41, (V.int .i64) (a2.length : Int)), (40, .sl 5 .no (List.map E_THold a2)), (7, .slo 5 0 [] 0 0 s13.2.length 1), (6, .map 1), (5, (V.int .i64) 0), (4, .nils)], [.buf 5 (List.map E_THold s13.2), .map (encE E_A2_i64 (V.int .i64) x8.es)]⟩) hq12 (Wk.selS [0, 1] (by decide) rfl (SelE.leaf (lk 0 rfl rfl) rfl (.refl _) (fun m => ((TyOk.int .i64).lt _ _)) (SelE.leaf (lk 1 rfl rfl) rfl (.refl _) (fun m => ((TyOk.int .i64).lt _ _)) (SelE.leaf (lk 2 rfl rfl) rfl (.refl _) (fun m => (lt_sl rfl (ty_THold.ltm _ _))) (SelE.spec (lk 3 rfl rfl) rfl (.slo (by first | rfl | simp)) rfl rfl (SelE.spec (lk 4 rfl rfl) rfl (.refl _) rfl rfl (SelE.leaf (lk 5 rfl rfl) rfl (.refl _) (fun m => ((TyOk.int .i64).lt _ _)) (SelE.leaf (lk 6 rfl rfl) rfl (.refl _) (fun m => rfl) .nil))))))) (.cons (lt_buf ty_THold) rfl ⟨rfl, RSubL.leafr ty_THold _ rfl⟩ (.cons (lt_map ty_A2_i64 (TyOk.int .i64)) rfl (asub_map ty_A2_i64 (TyOk.int .i64) _) .nil))) (fun _ s13 h12 => ?_)
        rw [hold_Join_L2] at h12
        refine AWp.seq ?_
        refine W.reg [0] rfl ?_
        refine S.sil 43 rfl rfl (fun _ hF => .lss (lk 0 rfl rfl) (lk 1 rfl rfl)) ?_
        refine S.nil ?_
        refine thenQ_n ?_
        refine AWp.seq ?_
        refine AWp.condM (lk 0 rfl rfl) h12 (fun c3 h12 => ?_) (fun c3 h12 => ?_)
        · skip
          refine AWp.skip ?_
          refine thenQ_n ?_
          refine AWp.seq ?_
          refine AWp.block ?_
          refine AWp.seq ?_
          refine W.reg [0, 1, 2, 3] rfl ?_
          obtain ⟨j15, m15, h12⟩ := h12.bnd
          refine S.sil 44 rfl rfl (fun _ hF => .ixS sli40 (lk 3 rfl rfl) (lk 1 rfl rfl) m15) ?_
          obtain ⟨v16, ev16, h12⟩ := h12.nam
          refine S.sil 45 rfl rfl (fun _ hF => .nv (.loadC sz101 ag101 (lk 0 rfl rfl) (ty_THold.fl (a2.getD j15 default)) rfl) (congrArg E_THold ev16.symm)) ?_
          refine S.eff 11 rfl rfl (.nf (v2 := .ptr 2 [] 0) (H2 := [.buf 5 (List.map E_THold s13.2), .map (encE E_A2_i64 (V.int .i64) x8.es), .cells (E_THold (default : THold))]) (.alloc zv101) rfl rfl) trivial ?_
          refine S.effN rfl rfl (.nf (H2 := [.buf 5 (List.map E_THold s13.2), .map (encE E_A2_i64 (V.int .i64) x8.es), .cells (E_THold v16)]) (.storeP sz101 (lk 0 rfl rfl) (lk 1 rfl rfl) rfl (.refl _) rfl .nil (by first | rfl | omega) .nil (ty_THold.fl v16) (ty_THold.fl (default : THold)) rfl) rfl rfl) trivial ?_
          refine S.nil ?_
          refine thenQ_n ?_
          refine AWp.wk (Wk.freeze 2 rfl rfl (.cons (lk 0 rfl rfl) rfl (.ptr .nil (by first | rfl | omega)) (.same (lk 1 rfl rfl) (.same (lk 2 rfl rfl) (.same (lk 3 rfl rfl) (.same (lk 4 rfl rfl) (.same (lk 5 rfl rfl) (.same (lk 6 rfl rfl) (.same (lk 7 rfl rfl) (.same (lk 8 rfl rfl) (.same (lk 9 rfl rfl) (.same (lk 10 rfl rfl) .nil))))))))))) (.refl _)) ?_
          refine AWp.seq ?_
          refine W.reg [0, 1, 2, 3, 4, 5, 6, 7, 8, 9, 10, 11] rfl ?_
          refine S.sil 47 rfl rfl (fun _ hF => .move (lk 8 rfl rfl)) ?_
          refine S.sil 48 rfl rfl (fun _ hF => .fieldAddrC lay101 rfl rfl (lk 1 rfl rfl) rfl flL_nil) ?_
          refine S.sil 49 rfl rfl (fun _ hF => .loadC sz3 ag3 (lk 0 rfl rfl) rfl rfl) ?_
          refine S.sil 50 rfl rfl (fun _ hF => .fieldAddrC lay101 rfl rfl (lk 3 rfl rfl) rfl (flL_c (show flen _ = 1 from rfl) flL_nil)) ?_
          refine S.sil 51 rfl rfl (fun _ hF => .loadC sz3 ag3 (lk 0 rfl rfl) rfl rfl) ?_
          refine S.sil 52 rfl rfl (fun _ hF => .buildArrL (w := E_A2_i64 (#v[v16.Replica, v16.Number] : Vector Int 2)) arr163 zv163 (.cons (lk 2 rfl rfl) rfl rfl rfl (.cons (lk 0 rfl rfl) rfl rfl rfl .nil)) rfl rfl) ?_
          obtain ⟨o17, m17, h12⟩ := h12.bnd
          refine S.qui 53 rfl rfl (fun _ => .mapGetT und162 key163 kt163 ((TyOk.int .i64).ok) zv3 (lk 5 rfl rfl) (lk 0 rfl rfl) rfl m17) ?_
          refine S.sil 46 rfl rfl (fun _ hF => .move (lk 0 rfl rfl)) ?_
          refine S.sil 54 rfl rfl (fun _ hF => .extract (lk 0 rfl rfl) rfl) ?_
          refine S.sil 55 rfl rfl (fun _ hF => .extract (lk 1 rfl rfl) rfl) ?_
          refine S.sil 12 rfl rfl (fun _ hF => .assign (lk 1 rfl rfl)) ?_
          refine S.sil 13 rfl rfl (fun _ hF => .assign (lk 1 rfl rfl)) ?_
          refine S.nil ?_
          refine thenQ_n ?_
          refine AWp.block ?_
          refine AWp.seq ?_
          refine W.reg [0, 1, 2] rfl ?_
          refine S.sil 69 rfl rfl (fun _ hF => .move (lk 0 rfl rfl)) ?_
          refine S.sil 70 rfl rfl (fun _ hF => .not (lk 0 rfl rfl)) ?_
          refine S.sil 68 rfl rfl (fun _ hF => .assign (lk 0 rfl rfl)) ?_
          refine S.nil ?_
          refine thenQ_n ?_
          refine AWp.condM (lk 0 rfl rfl) h12 (fun c4 h12 => ?_) (fun c4 h12 => ?_)
          · skip
            refine W.reg [0, 1, 2, 3, 4] rfl ?_
            refine S.sil 71 rfl rfl (fun _ hF => .move (lk 22 rfl rfl)) ?_
            refine S.sil 72 rfl rfl (fun _ hF => .loadC sz101 ag101 (lk 16 rfl rfl) (ty_THold.fl v16) rfl) ?_
            refine S.sil 73 rfl rfl (fun _ hF => .buildSliceW sli40 zv101 rfl rfl (by decide) (.cons (lk 0 rfl rfl) rfl (.refl _) (ty_THold.fl v16) .nil)) ?_
            obtain ⟨l18, m18, h12⟩ := h12.bnd
            refine S.eff 74 rfl rfl (.nf (v2 := .slo 5 3 [] 0 0 l18.length 1) (H2 := [.dead, .map (encE E_A2_i64 (V.int .i64) x8.es), .dead, .buf 5 (List.map E_THold l18)]) (.appOwnT sli40 und40 zv101 rfl (by decide) (lk 2 rfl rfl) rfl (by first | rfl | simp) (lk 0 rfl rfl) Rd.sl m18 rfl) rfl rfl) trivial ?_
            refine S.sil 7 rfl rfl (fun _ hF => .assign (lk 0 rfl rfl)) ?_
            refine S.nil ?_
            refine blockQ_n ?_
            refine blockQ_n ?_
            refine thenQ_n ?_
            refine W.reg [0, 1] rfl ?_
            refine S.sil 94 rfl rfl (fun _ hF => .add (lk 24 rfl rfl) cI) ?_
            refine S.sil 42 rfl rfl (fun _ hF => .move (lk 0 rfl rfl)) ?_
            refine S.nil ?_
            refine thenQ_n ?_
            exact ⟨_, h12.ret, (Wk.selS [3, 1] (by decide) rfl (SelE.leaf (lk 0 rfl rfl) rfl (.refl _) (fun m => ((TyOk.int .i64).lt _ _)) (SelE.leaf (lk 27 rfl rfl) rfl (.refl _) (fun m => ((TyOk.int .i64).lt _ _)) (SelE.leaf (lk 28 rfl rfl) rfl (.refl _) (fun m => (lt_sl rfl (ty_THold.ltm _ _))) (SelE.spec (lk 2 rfl rfl) rfl (.slo (by first | rfl | simp)) rfl rfl (SelE.spec (lk 30 rfl rfl) rfl (.refl _) rfl rfl (SelE.leaf (lk 31 rfl rfl) rfl (.refl _) (fun m => ((TyOk.int .i64).lt _ _)) (SelE.leaf (lk 32 rfl rfl) rfl (.refl _) (fun m => rfl) .nil))))))) (.cons (lt_buf ty_THold) rfl ⟨rfl, RSubL.leafr ty_THold _ rfl⟩ (.cons (lt_map ty_A2_i64 (TyOk.int .i64)) rfl (asub_map ty_A2_i64 (TyOk.int .i64) _) .nil)))⟩
          · skip
            refine AWp.seq ?_
            refine W.regD [0, 1, 2, 3, 4, 5, 6, 7, 8, 9, 10, 11, 12, 13, 14, 15, 16, 17, 18] mixed ?_
            refine S.sil 76 rfl rfl (fun _ hF => .move (lk 22 rfl rfl)) ?_
            refine S.sil 77 rfl rfl (fun _ hF => .move (lk 5 rfl rfl)) ?_
            obtain ⟨j19, m19, h12⟩ := h12.bnd
            refine S.sil 78 rfl rfl (fun _ hF => .ixO sli40 (lk 1 rfl rfl) (lk 0 rfl rfl) (by first | rfl | simp) m19) ?_
            refine S.sil 79 rfl rfl (fun _ hF => .fieldAddr lay101 rfl rfl (lk 0 rfl rfl)) ?_
            refine S.qui 80 rfl rfl (fun _ => .loadB sz3 ag3 (lk 0 rfl rfl) rfl (.ls (by have := six_lt m19; simp at this ⊢; omega) (.st rfl (flL_c (show flen _ = 1 from rfl) (flL_c (show flen _ = 1 from rfl) flL_nil)) .nil)) (by first | rfl | omega) rfl rfl) ?_
            refine S.sil 81 rfl rfl (fun _ hF => .fieldAddrC lay101 rfl rfl (lk 20 rfl rfl) rfl (flL_c (show flen _ = 1 from rfl) (flL_c (show flen _ = 1 from rfl) flL_nil))) ?_
            refine S.sil 82 rfl rfl (fun _ hF => .loadC sz3 ag3 (lk 0 rfl rfl) rfl rfl) ?_
            refine S.sil 83 rfl rfl (fun _ hF => .neq (lk 2 rfl rfl) (lk 0 rfl rfl)) ?_
            refine S.sil 84 rfl rfl (fun _ hF => .move (lk 0 rfl rfl)) ?_
            refine S.gsil 85 8 84 false rfl rfl rfl (lk 0 rfl rfl) (fun hB _ hF => .move (lk 31 rfl rfl)) ?_
            refine S.gsil 86 8 84 false rfl rfl rfl (lk 1 rfl rfl) (fun hB _ hF => .move (lk 14 rfl rfl)) ?_
            obtain ⟨j20, m20, h12⟩ := h12.bnd
            refine S.gsil 87 8 84 false rfl rfl rfl (lk 2 rfl rfl) (fun hB _ hF => .ixO sli40 (ifT hB (lk 1 rfl rfl)) (ifT hB (lk 0 rfl rfl)) (by first | rfl | simp) (gd_get m20 hB)) ?_
            refine S.gsil 88 8 84 false rfl rfl rfl (lk 3 rfl rfl) (fun hB _ hF => .fieldAddr lay101 rfl rfl (ifT hB (lk 0 rfl rfl))) ?_
            refine S.gqui 89 8 84 false rfl rfl rfl (lk 4 rfl rfl) (fun hB _ => .loadB sz3 ag3 (ifT hB (lk 0 rfl rfl)) rfl (.ls (by have := six_lt (gd_get m20 hB); simp at this ⊢; omega) (.st rfl (flL_c (show flen _ = 1 from rfl) (flL_c (show flen _ = 1 from rfl) (flL_c (show flen _ = 1 from rfl) flL_nil))) .nil)) (by first | rfl | omega) rfl rfl) ?_
            refine S.gsil 90 8 84 false rfl rfl rfl (lk 5 rfl rfl) (fun hB _ hF => .fieldAddrC lay101 rfl rfl (lk 29 rfl rfl) rfl (flL_c (show flen _ = 1 from rfl) (flL_c (show flen _ = 1 from rfl) (flL_c (show flen _ = 1 from rfl) flL_nil)))) ?_
            refine S.gsil 91 8 84 false rfl rfl rfl (lk 6 rfl rfl) (fun hB _ hF => .loadC sz3 ag3 (ifT hB (lk 0 rfl rfl)) rfl rfl) ?_
            refine S.gsil 92 8 84 false rfl rfl rfl (lk 7 rfl rfl) (fun hB _ hF => .neq (ifT hB (lk 2 rfl rfl)) (ifT hB (lk 0 rfl rfl))) ?_
            obtain ⟨v21, ev21, h12⟩ := h12.nam
            refine S.sil 93 rfl rfl (fun _ hF => .nv (.pickOr (lk 8 rfl rfl) cB (fun h => ifT h (lk 0 rfl rfl))) (congrArg V.bool ev21.symm)) ?_
            refine S.sil 75 rfl rfl (fun _ hF => .assign (lk 0 rfl rfl)) ?_
            refine S.nilD (by kernel_rfl) ?_
            refine thenQ_n ?_
            refine AWp.condM (lk 0 rfl rfl) h12 (fun c5 h12 => ?_) (fun c5 h12 => ?_)
            · skip
              refine AWp.seq ?_
              refine W.reg [0, 1] rfl ?_
              refine S.sil 4 rfl rfl (fun _ hF => .assign cNs) ?_
              refine S.sil 5 rfl rfl (fun _ hF => .assign cI) ?_
              refine S.nil ?_
              refine thenQ_n ?_
              refine AWp.prune (.eq (lk 0 rfl rfl) rfl (.eq (lk 1 rfl rfl) rfl (.eq (lk 2 rfl rfl) rfl (.eq (lk 3 rfl rfl) rfl (.eq (lk 12 rfl rfl) rfl (.eq (lk 13 rfl rfl) rfl (.eq (lk 14 rfl rfl) rfl (.eq (lk 15 rfl rfl) rfl (.eq (lk 16 rfl rfl) rfl (.eq (lk 17 rfl rfl) rfl (.eq (lk 18 rfl rfl) rfl (.eq (lk 19 rfl rfl) rfl (.eq (lk 20 rfl rfl) rfl (.eq (lk 21 rfl rfl) rfl (.eq (lk 22 rfl rfl) rfl (.eq (lk 23 rfl rfl) rfl (.eq (lk 24 rfl rfl) rfl (.eq (lk 25 rfl rfl) rfl (.eq (lk 26 rfl rfl) rfl (.eq (lk 27 rfl rfl) rfl (.eq (lk 28 rfl rfl) rfl (.eq (lk 29 rfl rfl) rfl (.eq (lk 30 rfl rfl) rfl (.eq (lk 31 rfl rfl) rfl (.eq (lk 32 rfl rfl) rfl (.eq (lk 33 rfl rfl) rfl (.eq (lk 34 rfl rfl) rfl (.eq (lk 35 rfl rfl) rfl (.eq (lk 36 rfl rfl) rfl (.eq (lk 37 rfl rfl) rfl (.eq (lk 38 rfl rfl) rfl (.eq (lk 39 rfl rfl) rfl (.eq (lk 40 rfl rfl) rfl (.eq (lk 41 rfl rfl) rfl (.eq (lk 42 rfl rfl) rfl (.eq (lk 43 rfl rfl) rfl (.eq (lk 44 rfl rfl) rfl .nil))))))))))))))))))))))))))))))))))))) ?_
              refine AWp.ret ?_
              refine blockQ_r ?_
              refine blockQ_r ?_
              refine thenQ_r ?_
              refine thenQ_r ?_
              refine blockQ_r ?_
              refine thenQ_r ?_
              refine thenQ_r ?_
              have h := Ok.inrq h h12.ret
              obtain rfl := h.ret
              exact endFN rfl (Wk.selS [] .nil rfl (SelE.leaf (lk 1 rfl rfl) rfl (.nils_no _) (fun m => (ty_S_THold.lt ([] : List THold) _)) (SelE.leaf (lk 0 rfl rfl) rfl (.refl _) (fun m => ((TyOk.int .i64).lt _ _)) .nil)) .nil) (.cons (.tmp (lk 0 rfl rfl) rfl) (.cons (.tmp (lk 1 rfl rfl) rfl) .nil)) rfl rfl rfl
            · skip
              refine W.regD [0, 1, 2, 3, 4, 5, 6, 7, 8, 9, 10, 11, 12] mixed ?_
              refine S.sil 56 rfl rfl (fun _ hF => .move (lk 41 rfl rfl)) ?_
              refine S.sil 57 rfl rfl (fun _ hF => .move (lk 24 rfl rfl)) ?_
              refine S.sil 58 rfl rfl (fun _ hF => .move (lk 43 rfl rfl)) ?_
              refine S.sil 59 rfl rfl (fun _ hF => .move (lk 26 rfl rfl)) ?_
              obtain ⟨j22, m22, h12⟩ := h12.bnd
              refine S.sil 60 rfl rfl (fun _ hF => .ixO sli40 (lk 1 rfl rfl) (lk 0 rfl rfl) (by first | rfl | simp) m22) ?_
              refine S.sil 61 rfl rfl (fun _ hF => .fieldAddr lay101 rfl rfl (lk 0 rfl rfl)) ?_
              refine S.qui 62 rfl rfl (fun _ => .loadB sz3 ag3 (lk 0 rfl rfl) rfl (.ls (by have := six_lt m22; simp at this ⊢; omega) (.st rfl (flL_c (show flen _ = 1 from rfl) (flL_c (show flen _ = 1 from rfl) (flL_c (show flen _ = 1 from rfl) (flL_c (show flen _ = 1 from rfl) flL_nil)))) .nil)) (by first | rfl | omega) rfl rfl) ?_
              refine S.sil 63 rfl rfl (fun _ hF => .fieldAddrC lay101 rfl rfl (lk 41 rfl rfl) rfl (flL_c (show flen _ = 1 from rfl) (flL_c (show flen _ = 1 from rfl) (flL_c (show flen _ = 1 from rfl) (flL_c (show flen _ = 1 from rfl) flL_nil))))) ?_
              refine S.sil 64 rfl rfl (fun _ hF => .loadC sz3 ag3 (lk 0 rfl rfl) rfl rfl) ?_
              refine S.sil 65 rfl rfl (fun _ hF => .bmax (lk 2 rfl rfl) (lk 0 rfl rfl)) ?_
              obtain ⟨j23, m23, h12⟩ := h12.bnd
              refine S.sil 66 rfl rfl (fun _ hF => .ixO sli40 (lk 9 rfl rfl) (lk 8 rfl rfl) (by first | rfl | simp) m23) ?_
              refine S.sil 67 rfl rfl (fun _ hF => .fieldAddr lay101 rfl rfl (lk 0 rfl rfl)) ?_
              obtain ⟨v24, ev24, h12⟩ := h12.nam
              refine S.effN rfl rfl (.storeB sz3 (lk 0 rfl rfl) (lk 2 rfl rfl) rfl (.refl _) rfl (.ls (by have := six_lt m23; simp at this ⊢; omega) (.st rfl (flL_c (show flen _ = 1 from rfl) (flL_c (show flen _ = 1 from rfl) (flL_c (show flen _ = 1 from rfl) (flL_c (show flen _ = 1 from rfl) flL_nil)))) .nil)) (by first | rfl | omega) (.ls ({ (s13.2.getD j23 default) with State := (max ((s13.2.getD j22 default).State) v16.State) }) (by have := six_lt m23; simp at this ⊢; omega) (.st rfl .nil rfl)) rfl rfl (congrArg (fun z => ([AObj.buf 5 (List.map E_THold z), .map (encE E_A2_i64 (V.int .i64) x8.es), .dead] : List AObj)) ev24.symm)) trivial ?_
              refine S.nilD (by kernel_rfl) ?_
              refine blockQ_n ?_
              refine blockQ_n ?_
              refine thenQ_n ?_
              refine W.reg [0, 1] rfl ?_
              refine S.sil 94 rfl rfl (fun _ hF => .add (lk 50 rfl rfl) cI) ?_
              refine S.sil 42 rfl rfl (fun _ hF => .move (lk 0 rfl rfl)) ?_
              refine S.nil ?_
              refine thenQ_n ?_
              exact ⟨_, h12.ret, (Wk.selS [0, 1] (by decide) rfl (SelE.leaf (lk 0 rfl rfl) rfl (.refl _) (fun m => ((TyOk.int .i64).lt _ _)) (SelE.leaf (lk 53 rfl rfl) rfl (.refl _) (fun m => ((TyOk.int .i64).lt _ _)) (SelE.leaf (lk 54 rfl rfl) rfl (.refl _) (fun m => (lt_sl rfl (ty_THold.ltm _ _))) (SelE.spec (lk 55 rfl rfl) rfl (.slo (by first | rfl | simp [ev24, ev16])) rfl rfl (SelE.spec (lk 56 rfl rfl) rfl (.refl _) rfl rfl (SelE.leaf (lk 57 rfl rfl) rfl (.refl _) (fun m => ((TyOk.int .i64).lt _ _)) (SelE.leaf (lk 58 rfl rfl) rfl (.refl _) (fun m => rfl) .nil))))))) (.cons (lt_buf ty_THold) rfl ⟨rfl, RSubL.leafr ty_THold _ rfl⟩ (.cons (lt_map ty_A2_i64 (TyOk.int .i64)) rfl (asub_map ty_A2_i64 (TyOk.int .i64) _) .nil)))⟩
        · skip
          refine AWp.exit ?_
          refine thenQ_x ?_
          refine thenQ_x ?_
          refine blockQ_x ?_
          refine thenQ_n ?_
          exact ⟨_, h12.ret, (Wk.selS [0] (by decide) rfl (SelE.spec (lk 4 rfl rfl) rfl (.slo (by first | rfl | simp)) rfl rfl (SelE.leaf (lk 6 rfl rfl) rfl (.refl _) (fun m => ((TyOk.int .i64).lt _ _)) (SelE.leaf (lk 7 rfl rfl) rfl (.refl _) (fun m => rfl) .nil))) (.cons (lt_buf ty_THold) rfl ⟨rfl, RSubL.leafr ty_THold _ rfl⟩ .nil))⟩
      · skip
        refine thenQ_n ?_
        refine AWp.seq ?_
        refine AWp.seq ?_
        refine W.reg [0, 1, 2] rfl ?_
        refine S.sil 95 rfl rfl (fun _ hF => .move (lk 0 rfl rfl)) ?_
        refine S.sil 96 rfl rfl (fun _ hF => .lenO sli40 (lk 0 rfl rfl)) ?_
        refine S.sil 97 rfl rfl (fun _ hF => .gtr (lk 0 rfl rfl) cI) ?_
        refine S.nil ?_
        refine thenQ_n ?_
        refine AWp.condM (lk 0 rfl rfl) h (fun c6 h => ?_) (fun c6 h => ?_)
        · skip
          refine AWp.seq ?_
          refine W.reg [0, 1] rfl ?_
          refine S.sil 4 rfl rfl (fun _ hF => .assign cNs) ?_
          refine S.sil 5 rfl rfl (fun _ hF => .assign cI) ?_
          refine S.nil ?_
          refine thenQ_n ?_
          refine AWp.ret ?_
          refine thenQ_r ?_
          obtain rfl := h.ret
          exact endFN rfl (Wk.selS [] .nil rfl (SelE.leaf (lk 1 rfl rfl) rfl (.nils_no _) (fun m => (ty_S_THold.lt ([] : List THold) _)) (SelE.leaf (lk 0 rfl rfl) rfl (.refl _) (fun m => ((TyOk.int .i64).lt _ _)) .nil)) .nil) (.cons (.tmp (lk 0 rfl rfl) rfl) (.cons (.tmp (lk 1 rfl rfl) rfl) .nil)) rfl rfl rfl
        · skip
          refine AWp.skip ?_
          refine thenQ_n ?_
          refine AWp.seq ?_
          refine W.reg [0, 1] rfl ?_
          refine S.sil 98 rfl rfl (fun _ hF => .move (lk 3 rfl rfl)) ?_
          obtain ⟨l25, m25, h⟩ := h.bnd
          refine S.eff 99 rfl rfl (.nf (H2 := [.buf 5 (List.map E_THold l25)]) (.sortFunc (ρ := Go.Proofs.Tryz.sort133_ren) srt133 rfl rfl ag101 sz101 ty_THold holdCmp_swo ent133 ent134 ltL_nil (fun x y => C_hold_compare (hold_compare_eq x y)) cF (lk 0 rfl rfl) cF rfl (by first | rfl | simp) m25 rfl) rfl rfl) trivial ?_
          refine S.nil ?_
          refine thenQ_n ?_
          refine AWp.seq ?_
          refine W.reg [0, 1, 2] rfl ?_
          refine S.sil 100 rfl rfl (fun _ hF => .move (lk 5 rfl rfl)) ?_
          refine S.sil 4 rfl rfl (fun _ hF => .assign (lk 0 rfl rfl)) ?_
          refine S.sil 5 rfl rfl (fun _ hF => .assign cI) ?_
          refine S.nil ?_
          refine thenQ_n ?_
          refine AWp.ret ?_
          refine endF_wk (Wk.freeze 0 rfl rfl (.same (lk 0 rfl rfl) (.cons (lk 1 rfl rfl) rfl (.slo (by first | rfl | simp [(sort_len holdCmp_swo m25)])) (.same (lk 0 rfl rfl) (.same (lk 1 rfl rfl) .nil)))) (.refl _)) ?_
          obtain rfl := h.ret
          exact endFN rfl (Wk.selS [] .nil rfl (SelE.leaf (lk 1 rfl rfl) rfl (.refl _) (fun m => (ty_S_THold.lt _ _)) (SelE.leaf (lk 0 rfl rfl) rfl (.refl _) (fun m => ((TyOk.int .i64).lt _ _)) .nil)) .nil) (.cons (.tmp (lk 0 rfl rfl) rfl) (.cons (.tmp (lk 1 rfl rfl) rfl) .nil)) rfl rfl rfl
theorem C_lock_Compare {a1 : TLock} {a2 : TLock} {r : Int} (h : lock_Compare a1 a2 = some r) : PureC Pg 135 [E_TLock a1, E_TLock a2] ((V.int .i64) r) := by
  refine PureC.ofF (CallSpec.of_bodyF 42 0 fn135 rfl rfl rfl (Nat.le_of_ble_eq_true rfl) ?_) (ltL_c (ty_TLock.lt _ _) (ltL_c (ty_TLock.lt _ _) ltL_nil)) ((TyOk.int .i64).lt _ _)
  replace h := Ok.of h
  unfold lock_Compare at h
  refine AWp.seq ?_
  refine W.reg [0, 1, 2] rfl ?_
  refine S.eff 2 rfl rfl (.nf (v2 := .ptr 0 [] 0) (H2 := [.cells (E_TLock a1)]) (.box (lk 0 rfl rfl) rfl) rfl rfl) trivial ?_
  refine S.eff 3 rfl rfl (.nf (v2 := .ptr 1 [] 0) (H2 := [.cells (E_TLock a1), .cells (E_TLock a2)]) (.box (lk 2 rfl rfl) rfl) rfl rfl) trivial ?_
  refine S.sil 4 rfl rfl (fun _ hF => .assign cI) ?_
  refine S.nil ?_
  refine thenQ_n ?_
  refine AWp.wk (Wk.freeze 0 rfl rfl (.same (lk 0 rfl rfl) (.same (lk 1 rfl rfl) (.cons (lk 2 rfl rfl) rfl (.ptr .nil (by first | rfl | omega)) .nil))) (.refl _)) ?_
  refine AWp.wk (Wk.freeze 1 rfl rfl (.same (lk 0 rfl rfl) (.cons (lk 1 rfl rfl) rfl (.ptr .nil (by first | rfl | omega)) (.same (lk 2 rfl rfl) .nil))) (.refl _)) ?_
  refine AWp.seq ?_
  refine AWp.seq ?_
  refine W.reg [0, 1, 2, 3, 4, 5, 6, 7, 8, 9, 10, 11, 12, 13, 14, 15, 16, 17, 18, 19, 20, 21] rfl ?_
  refine S.sil 7 rfl rfl (fun _ hF => .fieldAddrC lay39 rfl rfl (lk 2 rfl rfl) rfl flL_nil) ?_
  refine S.sil 8 rfl rfl (fun _ hF => .loadC sz3 ag3 (lk 0 rfl rfl) rfl rfl) ?_
  refine S.sil 9 rfl rfl (fun _ hF => .fieldAddrC lay39 rfl rfl (lk 3 rfl rfl) rfl flL_nil) ?_
  refine S.sil 10 rfl rfl (fun _ hF => .loadC sz3 ag3 (lk 0 rfl rfl) rfl rfl) ?_
  refine S.sil 11 rfl rfl (fun _ hF => .buildArrL (w := E_A2_i64 (#v[a1.Seq, a2.Seq] : Vector Int 2)) arr163 zv163 (.cons (lk 2 rfl rfl) rfl rfl rfl (.cons (lk 0 rfl rfl) rfl rfl rfl .nil)) rfl rfl) ?_
  refine S.sil 12 rfl rfl (fun _ hF => .fieldAddrC lay39 rfl rfl (lk 7 rfl rfl) rfl (flL_c (show flen _ = 1 from rfl) flL_nil)) ?_
  refine S.sil 13 rfl rfl (fun _ hF => .loadC sz3 ag3 (lk 0 rfl rfl) rfl rfl) ?_
  refine S.sil 14 rfl rfl (fun _ hF => .fieldAddrC lay39 rfl rfl (lk 8 rfl rfl) rfl (flL_c (show flen _ = 1 from rfl) flL_nil)) ?_
  refine S.sil 15 rfl rfl (fun _ hF => .loadC sz3 ag3 (lk 0 rfl rfl) rfl rfl) ?_
  refine S.sil 16 rfl rfl (fun _ hF => .buildArrL (w := E_A2_i64 (#v[a1.Ver, a2.Ver] : Vector Int 2)) arr163 zv163 (.cons (lk 2 rfl rfl) rfl rfl rfl (.cons (lk 0 rfl rfl) rfl rfl rfl .nil)) rfl rfl) ?_
  refine S.sil 17 rfl rfl (fun _ hF => .fieldAddrC lay39 rfl rfl (lk 12 rfl rfl) rfl (flL_c (show flen _ = 1 from rfl) (flL_c (show flen _ = 1 from rfl) flL_nil))) ?_
  refine S.sil 18 rfl rfl (fun _ hF => .loadC sz3 ag3 (lk 0 rfl rfl) rfl rfl) ?_
  refine S.sil 19 rfl rfl (fun _ hF => .fieldAddrC lay39 rfl rfl (lk 13 rfl rfl) rfl (flL_c (show flen _ = 1 from rfl) (flL_c (show flen _ = 1 from rfl) flL_nil))) ?_
  refine S.sil 20 rfl rfl (fun _ hF => .loadC sz3 ag3 (lk 0 rfl rfl) rfl rfl) ?_
  refine S.sil 21 rfl rfl (fun _ hF => .buildArrL (w := E_A2_i64 (#v[a1.Holder, a2.Holder] : Vector Int 2)) arr163 zv163 (.cons (lk 2 rfl rfl) rfl rfl rfl (.cons (lk 0 rfl rfl) rfl rfl rfl .nil)) rfl rfl) ?_
  refine S.sil 22 rfl rfl (fun _ hF => .fieldAddrC lay39 rfl rfl (lk 17 rfl rfl) rfl (flL_c (show flen _ = 1 from rfl) (flL_c (show flen _ = 1 from rfl) (flL_c (show flen _ = 1 from rfl) flL_nil)))) ?_
  refine S.sil 23 rfl rfl (fun _ hF => .loadC sz3 ag3 (lk 0 rfl rfl) rfl rfl) ?_
  refine S.sil 24 rfl rfl (fun _ hF => .fieldAddrC lay39 rfl rfl (lk 18 rfl rfl) rfl (flL_c (show flen _ = 1 from rfl) (flL_c (show flen _ = 1 from rfl) (flL_c (show flen _ = 1 from rfl) flL_nil)))) ?_
  refine S.sil 25 rfl rfl (fun _ hF => .loadC sz3 ag3 (lk 0 rfl rfl) rfl rfl) ?_
  refine S.sil 26 rfl rfl (fun _ hF => .buildArrL (w := E_A2_i64 (#v[a1.Value, a2.Value] : Vector Int 2)) arr163 zv163 (.cons (lk 2 rfl rfl) rfl rfl rfl (.cons (lk 0 rfl rfl) rfl rfl rfl .nil)) rfl rfl) ?_
  refine S.sil 27 rfl rfl (fun _ hF => .buildArrL (w := E_A4_A2_i64 (#v[(#v[a1.Seq, a2.Seq] : Vector Int 2), (#v[a1.Ver, a2.Ver] : Vector Int 2), (#v[a1.Holder, a2.Holder] : Vector Int 2), (#v[a1.Value, a2.Value] : Vector Int 2)] : Vector (Vector Int 2) 4)) arr206 zv206 (.cons (lk 15 rfl rfl) rfl rfl (ty_A2_i64.fl (#v[a1.Seq, a2.Seq] : Vector Int 2)) (.cons (lk 10 rfl rfl) rfl rfl (ty_A2_i64.fl (#v[a1.Ver, a2.Ver] : Vector Int 2)) (.cons (lk 5 rfl rfl) rfl rfl (ty_A2_i64.fl (#v[a1.Holder, a2.Holder] : Vector Int 2)) (.cons (lk 0 rfl rfl) rfl rfl (ty_A2_i64.fl (#v[a1.Value, a2.Value] : Vector Int 2)) .nil)))) rfl rfl) ?_
  refine S.sil 28 rfl rfl (fun _ hF => .move cI) ?_
  refine S.nil ?_
  refine thenQ_n ?_
  refine AWp.prune (.eq (lk 0 rfl rfl) rfl (.eq (lk 1 rfl rfl) rfl (.eq (lk 22 rfl rfl) rfl .nil))) ?_
  refine AWp.cutL (fun x5 => ⟨[(4, (V.int .i64) 0)], []⟩) nc_then h (fun q3 hq3 h => ?_) (fun x5 h => ?_)
  · refine AWp.block ?_
    refine AWp.loopT (fun s4 => ⟨[(28, (V.int .i64) s4), (27, E_A4_A2_i64 (#v[(#v[a1.Seq, a2.Seq] : Vector Int 2), (#v[a1.Ver, a2.Ver] : Vector Int 2), (#v[a1.Holder, a2.Holder] : Vector Int 2), (#v[a1.Value, a2.Value] : Vector Int 2)] : Vector (Vector Int 2) 4)), (4, (V.int .i64) 0)], []⟩) hq3 (Wk.selS [] (by decide) rfl (SelE.leaf (lk 0 rfl rfl) rfl (.refl _) (fun m => ((TyOk.int .i64).lt _ _)) (SelE.leaf (lk 1 rfl rfl) rfl (.refl _) (fun m => (ty_A4_A2_i64.lt _ _)) (SelE.leaf (lk 2 rfl rfl) rfl (.refl _) (fun m => ((TyOk.int .i64).lt _ _)) .nil))) .nil) (fun _ s4 h3 => ?_)
    rw [lock_Compare_L1] at h3
    refine AWp.seq ?_
    refine W.reg [0] rfl ?_
    refine S.sil 29 rfl rfl (fun _ hF => .lss (lk 0 rfl rfl) cI) ?_
    refine S.nil ?_
    refine thenQ_n ?_
    refine AWp.seq ?_
    refine AWp.condM (lk 0 rfl rfl) h3 (fun c1 h3 => ?_) (fun c1 h3 => ?_)
    · skip
      refine AWp.skip ?_
      refine thenQ_n ?_
      refine AWp.seq ?_
      refine AWp.block ?_
      refine AWp.seq ?_
      refine W.reg [0, 1, 2] rfl ?_
      obtain ⟨k6, m6, h3⟩ := h3.bnd
      refine S.sil 30 rfl rfl (fun _ hF => .ixV arr206 (lk 2 rfl rfl) (lk 1 rfl rfl) m6 rfl) ?_
      refine S.eff 6 rfl rfl (.nf (v2 := .ptr 0 [] 0) (H2 := [.cells (E_A2_i64 (default : Vector Int 2))]) (.alloc zv163) rfl rfl) trivial ?_
      obtain ⟨v7, ev7, h3⟩ := h3.nam
      refine S.effN rfl rfl (.nf (H2 := [.cells (E_A2_i64 v7)]) (.storeP sz163 (lk 0 rfl rfl) (lk 1 rfl rfl) rfl (.refl _) rfl .nil (by first | rfl | omega) .nil (ty_A2_i64.fl ((#v[(#v[a1.Seq, a2.Seq] : Vector Int 2), (#v[a1.Ver, a2.Ver] : Vector Int 2), (#v[a1.Holder, a2.Holder] : Vector Int 2), (#v[a1.Value, a2.Value] : Vector Int 2)] : Vector (Vector Int 2) 4).get k6)) (ty_A2_i64.fl (default : Vector Int 2)) (congrArg (fun z => ([AObj.cells (E_A2_i64 z)] : List AObj)) ev7.symm)) rfl rfl) trivial ?_
      refine S.nil ?_
      refine thenQ_n ?_
      refine AWp.wk (Wk.freeze 0 rfl rfl (.cons (lk 0 rfl rfl) rfl (.ptr .nil (by first | rfl | omega)) (.same (lk 1 rfl rfl) (.same (lk 2 rfl rfl) (.same (lk 3 rfl rfl) (.same (lk 4 rfl rfl) (.same (lk 5 rfl rfl) .nil)))))) (.refl _)) ?_
      refine AWp.seq ?_
      refine W.reg [0, 1, 2, 3, 4] rfl ?_
      obtain ⟨k8, m8, h3⟩ := h3.bnd
      refine S.sil 31 rfl rfl (fun _ hF => .ixC arr163 (lk 0 rfl rfl) cI m8) ?_
      refine S.sil 32 rfl rfl (fun _ hF => .loadC sz3 ag3 (lk 0 rfl rfl) rfl rfl) ?_
      obtain ⟨k9, m9, h3⟩ := h3.bnd
      refine S.sil 33 rfl rfl (fun _ hF => .ixC arr163 (lk 2 rfl rfl) cI m9) ?_
      refine S.sil 34 rfl rfl (fun _ hF => .loadC sz3 ag3 (lk 0 rfl rfl) rfl rfl) ?_
      refine S.sil 35 rfl rfl (fun _ hF => .neq (lk 2 rfl rfl) (lk 0 rfl rfl)) ?_
      refine S.nil ?_
      refine thenQ_n ?_
      refine AWp.condM (lk 0 rfl rfl) h3 (fun c2 h3 => ?_) (fun c2 h3 => ?_)
      · skip
        refine AWp.seq ?_
        refine AWp.seq ?_
        refine W.reg [0, 1, 2, 3, 4] rfl ?_
        obtain ⟨k10, m10, h3⟩ := h3.bnd
        refine S.sil 36 rfl rfl (fun _ hF => .ixC arr163 (lk 5 rfl rfl) cI m10) ?_
        refine S.sil 37 rfl rfl (fun _ hF => .loadC sz3 ag3 (lk 0 rfl rfl) rfl rfl) ?_
        obtain ⟨k11, m11, h3⟩ := h3.bnd
        refine S.sil 38 rfl rfl (fun _ hF => .ixC arr163 (lk 7 rfl rfl) cI m11) ?_
        refine S.sil 39 rfl rfl (fun _ hF => .loadC sz3 ag3 (lk 0 rfl rfl) rfl rfl) ?_
        refine S.sil 40 rfl rfl (fun _ hF => .gtr (lk 2 rfl rfl) (lk 0 rfl rfl)) ?_
        refine S.nil ?_
        refine thenQ_n ?_
        refine AWp.condM (lk 0 rfl rfl) h3 (fun c3 h3 => ?_) (fun c3 h3 => ?_)
        · skip
          refine AWp.seq ?_
          refine W.reg [0] rfl ?_
          refine S.sil 4 rfl rfl (fun _ hF => .assign cI) ?_
          refine S.nil ?_
          refine thenQ_n ?_
          refine AWp.ret ?_
          refine thenQ_r ?_
          refine blockQ_r ?_
          refine thenQ_r ?_
          refine thenQ_r ?_
          refine blockQ_r ?_
          refine thenQ_r ?_
          refine thenQ_r ?_
          have h := Ok.inrq h h3.ret
          obtain rfl := h.ret
          exact endF1 rfl (Wk.selS [] .nil rfl (SelE.leaf (lk 0 rfl rfl) rfl (.refl _) (fun m => ((TyOk.int .i64).lt _ _)) .nil) .nil) (.tmp (lk 0 rfl rfl) rfl) rfl rfl
        · skip
          refine AWp.skip ?_
          refine thenQ_n ?_
          refine AWp.seq ?_
          refine W.reg [0] rfl ?_
          refine S.sil 4 rfl rfl (fun _ hF => .assign cI) ?_
          refine S.nil ?_
          refine thenQ_n ?_
          refine AWp.ret ?_
          refine blockQ_r ?_
          refine thenQ_r ?_
          refine thenQ_r ?_
          refine blockQ_r ?_
          refine thenQ_r ?_
          refine thenQ_r ?_
          have h := Ok.inrq h h3.ret
          obtain rfl := h.ret
          exact endF1 rfl (Wk.selS [] .nil rfl (SelE.leaf (lk 0 rfl rfl) rfl (.refl _) (fun m => ((TyOk.int .i64).lt _ _)) .nil) .nil) (.tmp (lk 0 rfl rfl) rfl) rfl rfl
      · skip
        refine AWp.skip ?_
        refine blockQ_n ?_
        refine thenQ_n ?_
        refine W.reg [0, 1] rfl ?_
        refine S.sil 41 rfl rfl (fun _ hF => .add (lk 8 rfl rfl) cI) ?_
        refine S.sil 28 rfl rfl (fun _ hF => .move (lk 0 rfl rfl)) ?_
        refine S.nil ?_
        refine thenQ_n ?_
        exact ⟨_, h3.ret, (Wk.selS [] (by decide) rfl (SelE.leaf (lk 0 rfl rfl) rfl (.refl _) (fun m => ((TyOk.int .i64).lt _ _)) (SelE.leaf (lk 11 rfl rfl) rfl (.refl _) (fun m => (ty_A4_A2_i64.lt _ _)) (SelE.leaf (lk 12 rfl rfl) rfl (.refl _) (fun m => ((TyOk.int .i64).lt _ _)) .nil))) .nil)⟩
    · skip
      refine AWp.exit ?_
      refine thenQ_x ?_
      refine thenQ_x ?_
      refine blockQ_x ?_
      refine thenQ_n ?_
      exact ⟨_, h3.ret, (Wk.selS [] (by decide) rfl (SelE.leaf (lk 3 rfl rfl) rfl (.refl _) (fun m => ((TyOk.int .i64).lt _ _)) .nil) .nil)⟩
  · skip
    refine thenQ_n ?_
    refine AWp.seq ?_
    refine W.reg [0] rfl ?_
    refine S.sil 4 rfl rfl (fun _ hF => .assign cI) ?_
    refine S.nil ?_
    refine thenQ_n ?_
    refine AWp.ret ?_
    obtain rfl := h.ret
    exact endF1 rfl (Wk.selS [] .nil rfl (SelE.leaf (lk 0 rfl rfl) rfl (.refl _) (fun m => ((TyOk.int .i64).lt _ _)) .nil) .nil) (.tmp (lk 0 rfl rfl) rfl) rfl rfl
theorem C_lock_Join {a1 : TLock} {a2 : TLock} {r : TLock} (h : lock_Join a1 a2 = some r) : PureC Pg 59 [E_TLock a1, E_TLock a2] (E_TLock r) := by
  refine PureC.ofF (CallSpec.of_bodyF 11 0 fn59 rfl rfl rfl (Nat.le_of_ble_eq_true rfl) ?_) (ltL_c (ty_TLock.lt _ _) (ltL_c (ty_TLock.lt _ _) ltL_nil)) (ty_TLock.lt _ _)
  replace h := Ok.of h
  unfold lock_Join at h
  refine AWp.seq ?_
  refine W.reg [0, 1, 2] rfl ?_
  refine S.eff 2 rfl rfl (.nf (v2 := .ptr 0 [] 0) (H2 := [.cells (E_TLock a1)]) (.box (lk 0 rfl rfl) rfl) rfl rfl) trivial ?_
  refine S.eff 3 rfl rfl (.nf (v2 := .ptr 1 [] 0) (H2 := [.cells (E_TLock a1), .cells (E_TLock a2)]) (.box (lk 2 rfl rfl) rfl) rfl rfl) trivial ?_
  refine S.eff 4 rfl rfl (.nf (v2 := .ptr 2 [] 0) (H2 := [.cells (E_TLock a1), .cells (E_TLock a2), .cells (E_TLock (default : TLock))]) (.alloc zv39) rfl rfl) trivial ?_
  refine S.nil ?_
  refine thenQ_n ?_
  refine AWp.wk (Wk.freeze 0 rfl rfl (.same (lk 0 rfl rfl) (.same (lk 1 rfl rfl) (.cons (lk 2 rfl rfl) rfl (.ptr .nil (by first | rfl | omega)) .nil))) (.refl _)) ?_
  refine AWp.wk (Wk.freeze 1 rfl rfl (.same (lk 0 rfl rfl) (.cons (lk 1 rfl rfl) rfl (.ptr .nil (by first | rfl | omega)) (.same (lk 2 rfl rfl) .nil))) (.refl _)) ?_
  refine AWp.seq ?_
  refine AWp.seq ?_
  refine W.reg [0, 1, 2, 3] rfl ?_
  refine S.sil 5 rfl rfl (fun _ hF => .loadC sz39 ag39 (lk 2 rfl rfl) (ty_TLock.fl a1) rfl) ?_
  refine S.sil 6 rfl rfl (fun _ hF => .loadC sz39 ag39 (lk 2 rfl rfl) (ty_TLock.fl a2) rfl) ?_
  obtain ⟨r3, m3, h⟩ := h.bnd
  refine S.sil 7 rfl rfl (fun _ hF => .callQ ent135 cF (.c (lk 1 rfl rfl) (V.sub.refl _) (.c (lk 0 rfl rfl) (V.sub.refl _) .nil)) (C_lock_Compare m3)) ?_
  refine S.sil 8 rfl rfl (fun _ hF => .lss (lk 0 rfl rfl) cI) ?_
  refine S.nil ?_
  refine thenQ_n ?_
  refine AWp.condM (lk 0 rfl rfl) h (fun c1 h => ?_) (fun c1 h => ?_)
  · skip
    refine AWp.seq ?_
    refine W.reg [0, 1] rfl ?_
    refine S.sil 9 rfl rfl (fun _ hF => .loadC sz39 ag39 (lk 5 rfl rfl) (ty_TLock.fl a2) rfl) ?_
    refine S.effN rfl rfl (.nf (H2 := [.dead, .dead, .cells (E_TLock a2)]) (.storeP sz39 (lk 5 rfl rfl) (lk 0 rfl rfl) rfl (.refl _) rfl .nil (by first | rfl | omega) .nil (ty_TLock.fl a2) (ty_TLock.fl (default : TLock)) rfl) rfl rfl) trivial ?_
    refine S.nil ?_
    refine thenQ_n ?_
    refine AWp.ret ?_
    refine thenQ_r ?_
    refine endF_wk (Wk.freeze 2 rfl rfl (.cons (lk 5 rfl rfl) rfl (.ptr .nil (by first | rfl | omega)) .nil) (.refl _)) ?_
    obtain rfl := h.ret
    exact endF1 rfl (Wk.selS [] .nil rfl (SelE.leaf (lk 0 rfl rfl) rfl (.refl _) (fun m => (lt_cptr (ty_TLock.lt _ _))) .nil) .nil) (.cellC sz39 ag39 (lk 0 rfl rfl) (ty_TLock.fl _) rfl) rfl rfl
  · skip
    refine AWp.skip ?_
    refine thenQ_n ?_
    refine AWp.seq ?_
    refine W.reg [0, 1] rfl ?_
    refine S.sil 10 rfl rfl (fun _ hF => .loadC sz39 ag39 (lk 6 rfl rfl) (ty_TLock.fl a1) rfl) ?_
    refine S.effN rfl rfl (.nf (H2 := [.dead, .dead, .cells (E_TLock a1)]) (.storeP sz39 (lk 5 rfl rfl) (lk 0 rfl rfl) rfl (.refl _) rfl .nil (by first | rfl | omega) .nil (ty_TLock.fl a1) (ty_TLock.fl (default : TLock)) rfl) rfl rfl) trivial ?_
    refine S.nil ?_
    refine thenQ_n ?_
    refine AWp.ret ?_
    refine endF_wk (Wk.freeze 2 rfl rfl (.cons (lk 5 rfl rfl) rfl (.ptr .nil (by first | rfl | omega)) .nil) (.refl _)) ?_
    obtain rfl := h.ret
    exact endF1 rfl (Wk.selS [] .nil rfl (SelE.leaf (lk 0 rfl rfl) rfl (.refl _) (fun m => (lt_cptr (ty_TLock.lt _ _))) .nil) .nil) (.cellC sz39 ag39 (lk 0 rfl rfl) (ty_TLock.fl _) rfl) rfl rfl
theorem C_field_Join {a1 : TField} {a2 : TField} {r : TField × Int} (h : field_Join a1 a2 = some r) : PureC Pg 14 [E_TField a1, E_TField a2] (.tup [E_TField r.1, (V.int .i64) r.2]) := by
  refine PureC.ofF (CallSpec.of_bodyF 64 0 fn14 rfl rfl rfl (Nat.le_of_ble_eq_true rfl) ?_) (ltL_c (ty_TField.lt _ _) (ltL_c (ty_TField.lt _ _) ltL_nil)) (lt_tup (ltL_c (ty_TField.lt _ _) (ltL_c ((TyOk.int .i64).lt _ _) ltL_nil)))
  replace h := Ok.of h
  unfold field_Join at h
  refine AWp.seq ?_
  refine W.reg [0, 1, 2, 3] rfl ?_
  refine S.eff 2 rfl rfl (.nf (v2 := .ptr 0 [] 0) (H2 := [.cells (E_TField a1)]) (.box (lk 0 rfl rfl) rfl) rfl rfl) trivial ?_
  refine S.eff 3 rfl rfl (.nf (v2 := .ptr 1 [] 0) (H2 := [.cells (E_TField a1), .cells (E_TField a2)]) (.box (lk 2 rfl rfl) rfl) rfl rfl) trivial ?_
  refine S.eff 4 rfl rfl (.nf (v2 := .ptr 2 [] 0) (H2 := [.cells (E_TField a1), .cells (E_TField a2), .cells (.st [V.str (default : ByteArray), (V.int .i64) 0, (V.int .i64) 0, E_TCounter (default : TCounter), E_TLock (default : TLock), .nils])]) (.alloc zv42) rfl rfl) trivial ?_
  refine S.sil 5 rfl rfl (fun _ hF => .assign cI) ?_
  refine S.nil ?_
  refine thenQ_n ?_
  refine AWp.wk (Wk.freeze 1 rfl rfl (.same (lk 0 rfl rfl) (.same (lk 1 rfl rfl) (.cons (lk 2 rfl rfl) rfl (.ptr .nil (by first | rfl | omega)) (.same (lk 3 rfl rfl) .nil)))) (.refl _)) ?_
  refine AWp.seq ?_
  refine AWp.seq ?_
  refine W.reg [0, 1, 2, 3, 4, 5, 6, 7, 8, 9, 10, 11, 12, 13, 14, 15, 16, 17, 18] rfl ?_
  refine S.sil 9 rfl rfl (fun _ hF => .fieldAddr lay42 rfl rfl (lk 3 rfl rfl)) ?_
  refine S.qui 10 rfl rfl (fun _ => .loadP sz9 ag9 (lk 0 rfl rfl) rfl (.st rfl flL_nil .nil) (by first | rfl | omega) rfl rfl) ?_
  refine S.sil 11 rfl rfl (fun _ hF => .fieldAddrC lay42 rfl rfl (lk 4 rfl rfl) rfl flL_nil) ?_
  refine S.sil 12 rfl rfl (fun _ hF => .loadC sz9 ag9 (lk 0 rfl rfl) rfl rfl) ?_
  refine S.sil 13 rfl rfl (fun _ hF => .neqS (lk 2 rfl rfl) (lk 0 rfl rfl)) ?_
  refine S.sil 14 rfl rfl (fun _ hF => .move (lk 0 rfl rfl)) ?_
  refine S.gsil 15 5 14 false rfl rfl rfl (lk 0 rfl rfl) (fun hB _ hF => .fieldAddr lay42 rfl rfl (lk 9 rfl rfl)) ?_
  refine S.gqui 16 5 14 false rfl rfl rfl (lk 1 rfl rfl) (fun hB _ => .loadP sz3 ag3 (ifT hB (lk 0 rfl rfl)) rfl (.st rfl (flL_c (show flen _ = 1 from rfl) flL_nil) .nil) (by first | rfl | omega) rfl rfl) ?_
  refine S.gsil 17 5 14 false rfl rfl rfl (lk 2 rfl rfl) (fun hB _ hF => .fieldAddrC lay42 rfl rfl (lk 10 rfl rfl) rfl (flL_c (show flen _ = 1 from rfl) flL_nil)) ?_
  refine S.gsil 18 5 14 false rfl rfl rfl (lk 3 rfl rfl) (fun hB _ hF => .loadC sz3 ag3 (ifT hB (lk 0 rfl rfl)) rfl rfl) ?_
  refine S.gsil 19 5 14 false rfl rfl rfl (lk 4 rfl rfl) (fun hB _ hF => .neq (ifT hB (lk 2 rfl rfl)) (ifT hB (lk 0 rfl rfl))) ?_
  refine S.sil 20 rfl rfl (fun _ hF => .pickOr (lk 5 rfl rfl) cB (fun h => ifT h (lk 0 rfl rfl))) ?_
  refine S.sil 21 rfl rfl (fun _ hF => .move (lk 0 rfl rfl)) ?_
  refine S.gsil 22 12 21 false rfl rfl rfl (lk 0 rfl rfl) (fun hB _ hF => .fieldAddr lay42 rfl rfl (lk 16 rfl rfl)) ?_
  refine S.gqui 23 12 21 false rfl rfl rfl (lk 1 rfl rfl) (fun hB _ => .loadP sz3 ag3 (ifT hB (lk 0 rfl rfl)) rfl (.st rfl (flL_c (show flen _ = 1 from rfl) (flL_c (show flen _ = 1 from rfl) flL_nil)) .nil) (by first | rfl | omega) rfl rfl) ?_
  refine S.gsil 24 12 21 false rfl rfl rfl (lk 2 rfl rfl) (fun hB _ hF => .fieldAddrC lay42 rfl rfl (lk 17 rfl rfl) rfl (flL_c (show flen _ = 1 from rfl) (flL_c (show flen _ = 1 from rfl) flL_nil))) ?_
  refine S.gsil 25 12 21 false rfl rfl rfl (lk 3 rfl rfl) (fun hB _ hF => .loadC sz3 ag3 (ifT hB (lk 0 rfl rfl)) rfl rfl) ?_
  refine S.gsil 26 12 21 false rfl rfl rfl (lk 4 rfl rfl) (fun hB _ hF => .neq (ifT hB (lk 2 rfl rfl)) (ifT hB (lk 0 rfl rfl))) ?_
  obtain ⟨v3, ev3, h⟩ := h.nam
  refine S.sil 27 rfl rfl (fun _ hF => .nv (.pickOr (lk 5 rfl rfl) cB (fun h => ifT h (lk 0 rfl rfl))) (congrArg V.bool ev3.symm)) ?_
  refine S.nil ?_
  refine thenQ_n ?_
  refine AWp.prune (.eq (lk 0 rfl rfl) rfl (.eq (lk 19 rfl rfl) rfl (.eq (lk 20 rfl rfl) rfl (.eq (lk 21 rfl rfl) rfl (.eq (lk 22 rfl rfl) rfl .nil))))) ?_
  refine AWp.condM (lk 0 rfl rfl) h (fun c1 h => ?_) (fun c1 h => ?_)
  · skip
    refine AWp.seq ?_
    refine W.reg [0, 1, 2] rfl ?_
    obtain ⟨v4, ev4, h⟩ := h.nam
    refine S.sil 28 rfl rfl (fun _ hF => .nv (.vs (v := .st [V.str (default : ByteArray), (V.int .i64) 0, (V.int .i64) 0, E_TCounter (default : TCounter), E_TLock (default : TLock), .nils]) (v2 := E_TField (⟨(default : ByteArray), 0, 0, (default : TCounter), (default : TLock), ([] : List THold)⟩ : TField)) (.buildStW lay42 zv42 rfl .nil) rfl (.st (.cons (.refl _) (.cons (.refl _) (.cons (.refl _) (.cons (.refl _) (.cons (.refl _) (.cons (.nils_no _) .nil)))))))) (congrArg E_TField ev4.symm)) ?_
    refine S.effN rfl rfl (.nf (H2 := [.cells (E_TField a1), .dead, .cells (E_TField v4)]) (.storeP sz42 (lk 3 rfl rfl) (lk 0 rfl rfl) rfl (.refl _) rfl .nil (by first | rfl | omega) .nil (ty_TField.fl v4) (fl_st (flL_c (show flen _ = 1 from rfl) (flL_c (show flen _ = 1 from rfl) (flL_c (show flen _ = 1 from rfl) (flL_c (ty_TCounter.fl (default : TCounter)) (flL_c (ty_TLock.fl (default : TLock)) (flL_c (show flen _ = 1 from rfl) flL_nil))))))) rfl) rfl rfl) trivial ?_
    refine S.sil 5 rfl rfl (fun _ hF => .assign cI) ?_
    refine S.nil ?_
    refine thenQ_n ?_
    refine AWp.ret ?_
    refine thenQ_r ?_
    refine endF_wk (Wk.freeze 2 rfl rfl (.same (lk 0 rfl rfl) (.same (lk 0 rfl rfl) (.cons (lk 4 rfl rfl) rfl (.ptr .nil (by first | rfl | omega)) .nil))) (.refl _)) ?_
    obtain rfl := h.ret
    exact endFN rfl (Wk.selS [] .nil rfl (SelE.leaf (lk 2 rfl rfl) rfl (.refl _) (fun m => (lt_cptr (ty_TField.lt _ _))) (SelE.leaf (lk 0 rfl rfl) rfl (.refl _) (fun m => ((TyOk.int .i64).lt _ _)) .nil)) .nil) (.cons (.cellC sz42 ag42 (lk 0 rfl rfl) (ty_TField.fl _) rfl) (.cons (.tmp (lk 1 rfl rfl) rfl) .nil)) rfl rfl rfl
  · skip
    refine AWp.skip ?_
    refine thenQ_n ?_
    refine AWp.seq ?_
    refine W.reg [0, 1, 2, 3, 4, 5, 6, 7, 8, 9, 10] rfl ?_
    refine S.sil 30 rfl rfl (fun _ hF => .fieldAddr lay42 rfl rfl (lk 4 rfl rfl)) ?_
    refine S.qui 31 rfl rfl (fun _ => .loadP sz37 ag37 (lk 0 rfl rfl) rfl (.st rfl (flL_c (show flen _ = 1 from rfl) (flL_c (show flen _ = 1 from rfl) (flL_c (show flen _ = 1 from rfl) flL_nil))) .nil) (by first | rfl | omega) (ty_TCounter.fl a1.Counter) rfl) ?_
    refine S.sil 32 rfl rfl (fun _ hF => .fieldAddrC lay42 rfl rfl (lk 5 rfl rfl) rfl (flL_c (show flen _ = 1 from rfl) (flL_c (show flen _ = 1 from rfl) (flL_c (show flen _ = 1 from rfl) flL_nil)))) ?_
    refine S.sil 33 rfl rfl (fun _ hF => .loadC sz37 ag37 (lk 0 rfl rfl) (ty_TCounter.fl a2.Counter) rfl) ?_
    obtain ⟨r5, m5, h⟩ := h.bnd
    refine S.sil 34 rfl rfl (fun _ hF => .callQ ent57 cF (.c (lk 2 rfl rfl) (V.sub.refl _) (.c (lk 0 rfl rfl) (V.sub.refl _) .nil)) (C_counter_Join m5)) ?_
    refine S.sil 29 rfl rfl (fun _ hF => .move (lk 0 rfl rfl)) ?_
    refine S.sil 35 rfl rfl (fun _ hF => .extract (lk 0 rfl rfl) rfl) ?_
    refine S.sil 36 rfl rfl (fun _ hF => .extract (lk 1 rfl rfl) rfl) ?_
    refine S.eff 6 rfl rfl (.nf (v2 := .ptr 3 [] 0) (H2 := [.cells (E_TField a1), .dead, .cells (.st [V.str (default : ByteArray), (V.int .i64) 0, (V.int .i64) 0, E_TCounter (default : TCounter), E_TLock (default : TLock), .nils]), .cells (E_TCounter (default : TCounter))]) (.alloc zv37) rfl rfl) trivial ?_
    refine S.effN rfl rfl (.nf (H2 := [.cells (E_TField a1), .dead, .cells (.st [V.str (default : ByteArray), (V.int .i64) 0, (V.int .i64) 0, E_TCounter (default : TCounter), E_TLock (default : TLock), .nils]), .cells (E_TCounter r5.1)]) (.storeP sz37 (lk 0 rfl rfl) (lk 2 rfl rfl) rfl (.refl _) rfl .nil (by first | rfl | omega) .nil (ty_TCounter.fl r5.1) (ty_TCounter.fl (default : TCounter)) rfl) rfl rfl) trivial ?_
    refine S.sil 7 rfl rfl (fun _ hF => .assign (lk 1 rfl rfl)) ?_
    refine S.nil ?_
    refine thenQ_n ?_
    refine AWp.wk (Wk.freeze 3 rfl rfl (.same (lk 0 rfl rfl) (.cons (lk 1 rfl rfl) rfl (.ptr .nil (by first | rfl | omega)) (.same (lk 11 rfl rfl) (.same (lk 12 rfl rfl) (.same (lk 13 rfl rfl) (.same (lk 14 rfl rfl) .nil)))))) (.refl _)) ?_
    refine AWp.seq ?_
    refine AWp.seq ?_
    refine W.reg [0, 1] rfl ?_
    refine S.sil 37 rfl rfl (fun _ hF => .move (lk 0 rfl rfl)) ?_
    refine S.sil 38 rfl rfl (fun _ hF => .neq (lk 0 rfl rfl) cI) ?_
    refine S.nil ?_
    refine thenQ_n ?_
    refine AWp.condM (lk 0 rfl rfl) h (fun c2 h => ?_) (fun c2 h => ?_)
    · skip
      refine AWp.seq ?_
      refine W.reg [0, 1, 2, 3] rfl ?_
      obtain ⟨v6, ev6, h⟩ := h.nam
      refine S.sil 39 rfl rfl (fun _ hF => .nv (.vs (v := .st [V.str (default : ByteArray), (V.int .i64) 0, (V.int .i64) 0, E_TCounter (default : TCounter), E_TLock (default : TLock), .nils]) (v2 := E_TField (⟨(default : ByteArray), 0, 0, (default : TCounter), (default : TLock), ([] : List THold)⟩ : TField)) (.buildStW lay42 zv42 rfl .nil) rfl (.st (.cons (.refl _) (.cons (.refl _) (.cons (.refl _) (.cons (.refl _) (.cons (.refl _) (.cons (.nils_no _) .nil)))))))) (congrArg E_TField ev6.symm)) ?_
      refine S.sil 40 rfl rfl (fun _ hF => .move (lk 3 rfl rfl)) ?_
      refine S.effN rfl rfl (.nf (H2 := [.cells (E_TField a1), .dead, .cells (E_TField v6), .dead]) (.storeP sz42 (lk 7 rfl rfl) (lk 1 rfl rfl) rfl (.refl _) rfl .nil (by first | rfl | omega) .nil (ty_TField.fl v6) (fl_st (flL_c (show flen _ = 1 from rfl) (flL_c (show flen _ = 1 from rfl) (flL_c (show flen _ = 1 from rfl) (flL_c (ty_TCounter.fl (default : TCounter)) (flL_c (ty_TLock.fl (default : TLock)) (flL_c (show flen _ = 1 from rfl) flL_nil))))))) rfl) rfl rfl) trivial ?_
      refine S.sil 5 rfl rfl (fun _ hF => .assign (lk 0 rfl rfl)) ?_
      refine S.nil ?_
      refine thenQ_n ?_
      refine AWp.ret ?_
      refine thenQ_r ?_
      refine endF_wk (Wk.freeze 2 rfl rfl (.same (lk 0 rfl rfl) (.same (lk 0 rfl rfl) (.cons (lk 8 rfl rfl) rfl (.ptr .nil (by first | rfl | omega)) .nil))) (.refl _)) ?_
      obtain rfl := h.ret
      exact endFN rfl (Wk.selS [] .nil rfl (SelE.leaf (lk 2 rfl rfl) rfl (.refl _) (fun m => (lt_cptr (ty_TField.lt _ _))) (SelE.leaf (lk 0 rfl rfl) rfl (.refl _) (fun m => ((TyOk.int .i64).lt _ _)) .nil)) .nil) (.cons (.cellC sz42 ag42 (lk 0 rfl rfl) (ty_TField.fl _) rfl) (.cons (.tmp (lk 1 rfl rfl) rfl) .nil)) rfl rfl rfl
    · skip
      refine AWp.skip ?_
      refine thenQ_n ?_
      refine AWp.seq ?_
      refine W.reg [0, 1, 2, 3, 4, 5, 6, 7, 8, 9] rfl ?_
      refine S.sil 42 rfl rfl (fun _ hF => .fieldAddr lay42 rfl rfl (lk 7 rfl rfl)) ?_
      refine S.qui 43 rfl rfl (fun _ => .loadP sz40 ag40 (lk 0 rfl rfl) rfl (.st rfl (flL_c (show flen _ = 1 from rfl) (flL_c (show flen _ = 1 from rfl) (flL_c (show flen _ = 1 from rfl) (flL_c (ty_TCounter.fl a1.Counter) (flL_c (ty_TLock.fl a1.Lock) flL_nil))))) .nil) (by first | rfl | omega) rfl rfl) ?_
      refine S.sil 44 rfl rfl (fun _ hF => .fieldAddrC lay42 rfl rfl (lk 8 rfl rfl) rfl (flL_c (show flen _ = 1 from rfl) (flL_c (show flen _ = 1 from rfl) (flL_c (show flen _ = 1 from rfl) (flL_c (ty_TCounter.fl a2.Counter) (flL_c (ty_TLock.fl a2.Lock) flL_nil)))))) ?_
      refine S.sil 45 rfl rfl (fun _ hF => .loadC sz40 ag40 (lk 0 rfl rfl) rfl rfl) ?_
      obtain ⟨r7, m7, h⟩ := h.bnd
      refine S.sil 46 rfl rfl (fun _ hF => .callQ ent58 cF (.c (lk 2 rfl rfl) (V.sub.refl _) (.c (lk 0 rfl rfl) (V.sub.refl _) .nil)) (C_hold_Join m7)) ?_
      refine S.sil 41 rfl rfl (fun _ hF => .move (lk 0 rfl rfl)) ?_
      refine S.sil 47 rfl rfl (fun _ hF => .extract (lk 0 rfl rfl) rfl) ?_
      refine S.sil 48 rfl rfl (fun _ hF => .extract (lk 1 rfl rfl) rfl) ?_
      refine S.sil 8 rfl rfl (fun _ hF => .assign (lk 1 rfl rfl)) ?_
      refine S.sil 7 rfl rfl (fun _ hF => .assign (lk 1 rfl rfl)) ?_
      refine S.nil ?_
      refine thenQ_n ?_
      refine AWp.prune (.eq (lk 0 rfl rfl) rfl (.eq (lk 1 rfl rfl) rfl (.eq (lk 13 rfl rfl) rfl (.eq (lk 14 rfl rfl) rfl (.eq (lk 15 rfl rfl) rfl (.eq (lk 16 rfl rfl) rfl (.eq (lk 17 rfl rfl) rfl .nil))))))) ?_
      refine AWp.seq ?_
      refine AWp.seq ?_
      refine W.reg [0, 1] rfl ?_
      refine S.sil 49 rfl rfl (fun _ hF => .move (lk 0 rfl rfl)) ?_
      refine S.sil 50 rfl rfl (fun _ hF => .neq (lk 0 rfl rfl) cI) ?_
      refine S.nil ?_
      refine thenQ_n ?_
      refine AWp.condM (lk 0 rfl rfl) h (fun c3 h => ?_) (fun c3 h => ?_)
      · skip
        refine AWp.seq ?_
        refine W.reg [0, 1, 2, 3] rfl ?_
        obtain ⟨v8, ev8, h⟩ := h.nam
        refine S.sil 51 rfl rfl (fun _ hF => .nv (.vs (v := .st [V.str (default : ByteArray), (V.int .i64) 0, (V.int .i64) 0, E_TCounter (default : TCounter), E_TLock (default : TLock), .nils]) (v2 := E_TField (⟨(default : ByteArray), 0, 0, (default : TCounter), (default : TLock), ([] : List THold)⟩ : TField)) (.buildStW lay42 zv42 rfl .nil) rfl (.st (.cons (.refl _) (.cons (.refl _) (.cons (.refl _) (.cons (.refl _) (.cons (.refl _) (.cons (.nils_no _) .nil)))))))) (congrArg E_TField ev8.symm)) ?_
        refine S.sil 52 rfl rfl (fun _ hF => .move (lk 3 rfl rfl)) ?_
        refine S.effN rfl rfl (.nf (H2 := [.cells (E_TField a1), .dead, .cells (E_TField v8), .dead]) (.storeP sz42 (lk 8 rfl rfl) (lk 1 rfl rfl) rfl (.refl _) rfl .nil (by first | rfl | omega) .nil (ty_TField.fl v8) (fl_st (flL_c (show flen _ = 1 from rfl) (flL_c (show flen _ = 1 from rfl) (flL_c (show flen _ = 1 from rfl) (flL_c (ty_TCounter.fl (default : TCounter)) (flL_c (ty_TLock.fl (default : TLock)) (flL_c (show flen _ = 1 from rfl) flL_nil))))))) rfl) rfl rfl) trivial ?_
        refine S.sil 5 rfl rfl (fun _ hF => .assign (lk 0 rfl rfl)) ?_
        refine S.nil ?_
        refine thenQ_n ?_
        refine AWp.ret ?_
        refine thenQ_r ?_
        refine endF_wk (Wk.freeze 2 rfl rfl (.same (lk 0 rfl rfl) (.same (lk 0 rfl rfl) (.cons (lk 9 rfl rfl) rfl (.ptr .nil (by first | rfl | omega)) .nil))) (.refl _)) ?_
        obtain rfl := h.ret
        exact endFN rfl (Wk.selS [] .nil rfl (SelE.leaf (lk 2 rfl rfl) rfl (.refl _) (fun m => (lt_cptr (ty_TField.lt _ _))) (SelE.leaf (lk 0 rfl rfl) rfl (.refl _) (fun m => ((TyOk.int .i64).lt _ _)) .nil)) .nil) (.cons (.cellC sz42 ag42 (lk 0 rfl rfl) (ty_TField.fl _) rfl) (.cons (.tmp (lk 1 rfl rfl) rfl) .nil)) rfl rfl rfl
      · skip
        refine AWp.skip ?_
        refine thenQ_n ?_
        refine AWp.seq ?_
        refine W.regD [0, 1, 2, 3, 4, 5, 6, 7, 8, 9, 10, 11, 12] mixed ?_
        refine S.sil 53 rfl rfl (fun _ hF => .loadC sz37 ag37 (lk 4 rfl rfl) (ty_TCounter.fl r5.1) rfl) ?_
        refine S.sil 54 rfl rfl (fun _ hF => .move (lk 4 rfl rfl)) ?_
        refine S.sil 55 rfl rfl (fun _ hF => .fieldAddr lay42 rfl rfl (lk 10 rfl rfl)) ?_
        refine S.qui 56 rfl rfl (fun _ => .loadP sz39 ag39 (lk 0 rfl rfl) rfl (.st rfl (flL_c (show flen _ = 1 from rfl) (flL_c (show flen _ = 1 from rfl) (flL_c (show flen _ = 1 from rfl) (flL_c (ty_TCounter.fl a1.Counter) flL_nil)))) .nil) (by first | rfl | omega) (ty_TLock.fl a1.Lock) rfl) ?_
        refine S.sil 57 rfl rfl (fun _ hF => .fieldAddrC lay42 rfl rfl (lk 11 rfl rfl) rfl (flL_c (show flen _ = 1 from rfl) (flL_c (show flen _ = 1 from rfl) (flL_c (show flen _ = 1 from rfl) (flL_c (ty_TCounter.fl a2.Counter) flL_nil))))) ?_
        refine S.sil 58 rfl rfl (fun _ hF => .loadC sz39 ag39 (lk 0 rfl rfl) (ty_TLock.fl a2.Lock) rfl) ?_
        obtain ⟨r9, m9, h⟩ := h.bnd
        refine S.sil 59 rfl rfl (fun _ hF => .callQ ent59 cF (.c (lk 2 rfl rfl) (V.sub.refl _) (.c (lk 0 rfl rfl) (V.sub.refl _) .nil)) (C_lock_Join m9)) ?_
        refine S.sil 60 rfl rfl (fun _ hF => .fieldAddr lay42 rfl rfl (lk 15 rfl rfl)) ?_
        obtain ⟨v10, ev10, h⟩ := h.nam
        refine S.effN rfl rfl (.storeP sz37 (lk 0 rfl rfl) (lk 7 rfl rfl) rfl (.refl _) rfl (.st rfl (flL_c (show flen _ = 1 from rfl) (flL_c (show flen _ = 1 from rfl) (flL_c (show flen _ = 1 from rfl) flL_nil))) .nil) (by first | rfl | omega) (.st rfl .nil rfl) (ty_TCounter.fl r5.1) (ty_TCounter.fl a1.Counter) (congrArg (fun z => ([AObj.cells (E_TField z), .dead, .cells (.st [V.str (default : ByteArray), (V.int .i64) 0, (V.int .i64) 0, E_TCounter (default : TCounter), E_TLock (default : TLock), .nils]), .dead] : List AObj)) ev10.symm)) trivial ?_
        refine S.sil 61 rfl rfl (fun _ hF => .fieldAddr lay42 rfl rfl (lk 16 rfl rfl)) ?_
        obtain ⟨v11, ev11, h⟩ := h.nam
        refine S.effN rfl rfl (.storeP sz40 (lk 0 rfl rfl) (lk 7 rfl rfl) rfl (.refl _) rfl (.st rfl (flL_c (show flen _ = 1 from rfl) (flL_c (show flen _ = 1 from rfl) (flL_c (show flen _ = 1 from rfl) (flL_c (ty_TCounter.fl v10.Counter) (flL_c (ty_TLock.fl v10.Lock) flL_nil))))) .nil) (by first | rfl | omega) (.st rfl .nil rfl) rfl rfl (congrArg (fun z => ([AObj.cells (E_TField z), .dead, .cells (.st [V.str (default : ByteArray), (V.int .i64) 0, (V.int .i64) 0, E_TCounter (default : TCounter), E_TLock (default : TLock), .nils]), .dead] : List AObj)) ev11.symm)) trivial ?_
        refine S.sil 62 rfl rfl (fun _ hF => .fieldAddr lay42 rfl rfl (lk 17 rfl rfl)) ?_
        obtain ⟨v12, ev12, h⟩ := h.nam
        refine S.effN rfl rfl (.storeP sz39 (lk 0 rfl rfl) (lk 3 rfl rfl) rfl (.refl _) rfl (.st rfl (flL_c (show flen _ = 1 from rfl) (flL_c (show flen _ = 1 from rfl) (flL_c (show flen _ = 1 from rfl) (flL_c (ty_TCounter.fl v11.Counter) flL_nil)))) .nil) (by first | rfl | omega) (.st rfl .nil rfl) (ty_TLock.fl r9) (ty_TLock.fl v11.Lock) (congrArg (fun z => ([AObj.cells (E_TField z), .dead, .cells (.st [V.str (default : ByteArray), (V.int .i64) 0, (V.int .i64) 0, E_TCounter (default : TCounter), E_TLock (default : TLock), .nils]), .dead] : List AObj)) ev12.symm)) trivial ?_
        refine S.nilD (by kernel_rfl) ?_
        refine thenQ_n ?_
        refine AWp.prune (.eq (lk 15 rfl rfl) rfl (.eq (lk 16 rfl rfl) rfl (.eq (lk 18 rfl rfl) rfl .nil))) ?_
        refine AWp.seq ?_
        refine W.reg [0, 1, 2] rfl ?_
        refine S.qui 63 rfl rfl (fun _ => .loadP sz42 ag42 (lk 2 rfl rfl) rfl .nil (by first | rfl | omega) (ty_TField.fl v12) rfl) ?_
        refine S.effN rfl rfl (.nf (H2 := [.cells (E_TField v12), .dead, .cells (E_TField v12), .dead]) (.storeP sz42 (lk 2 rfl rfl) (lk 0 rfl rfl) rfl (.refl _) rfl .nil (by first | rfl | omega) .nil (ty_TField.fl v12) (fl_st (flL_c (show flen _ = 1 from rfl) (flL_c (show flen _ = 1 from rfl) (flL_c (show flen _ = 1 from rfl) (flL_c (ty_TCounter.fl (default : TCounter)) (flL_c (ty_TLock.fl (default : TLock)) (flL_c (show flen _ = 1 from rfl) flL_nil))))))) rfl) rfl rfl) trivial ?_
        refine S.sil 5 rfl rfl (fun _ hF => .assign cI) ?_
        refine S.nil ?_
        refine thenQ_n ?_
        refine AWp.ret ?_
        refine endF_wk (Wk.freeze 2 rfl rfl (.same (lk 0 rfl rfl) (.same (lk 0 rfl rfl) (.cons (lk 3 rfl rfl) rfl (.ptr .nil (by first | rfl | omega)) .nil))) (.refl _)) ?_
        obtain rfl := h.ret
        exact endFN rfl (Wk.selS [] .nil rfl (SelE.leaf (lk 2 rfl rfl) rfl (.refl _) (fun m => (lt_cptr (ty_TField.lt _ _))) (SelE.leaf (lk 0 rfl rfl) rfl (.refl _) (fun m => ((TyOk.int .i64).lt _ _)) .nil)) .nil) (.cons (.cellC sz42 ag42 (lk 0 rfl rfl) (ty_TField.fl _) rfl) (.cons (.tmp (lk 1 rfl rfl) rfl) .nil)) rfl rfl rfl
theorem C_usufructlaw07_Step {a1 : Tusufructlaw07_Do} {b2 : Vector TField 16} {r : Int × (Vector TField 16)} (h : usufructlaw07_Step a1 b2 = some r) : CallSpec Pg 45 [.ptr 0 [] 0, E_Tusufructlaw07_Do a1] [.cells (E_A16_TField b2)] fun o H' => o = .ret ((V.int .i64) r.1) ∧ H' = [.cells (E_A16_TField r.2)] := by
  refine CallSpec.of_bodyF 139 1 fn45 rfl rfl rfl (Nat.le_of_ble_eq_true rfl) ?_
  replace h := Ok.of h
  unfold usufructlaw07_Step at h
  refine AWp.seq ?_
  refine W.reg [0, 1] rfl ?_
  refine S.eff 3 rfl rfl (.nf (v2 := .ptr 1 [] 0) (H2 := [.cells (E_A16_TField b2), .cells (E_Tusufructlaw07_Do a1)]) (.box (lk 1 rfl rfl) rfl) rfl rfl) trivial ?_
  refine S.sil 4 rfl rfl (fun _ hF => .assign cI) ?_
  refine S.nil ?_
  refine thenQ_n ?_
  refine AWp.wk (Wk.freeze 1 rfl rfl (.same (lk 0 rfl rfl) (.cons (lk 1 rfl rfl) rfl (.ptr .nil (by first | rfl | omega)) (.same (lk 2 rfl rfl) .nil))) (.refl _)) ?_
  refine AWp.seq ?_
  refine AWp.seq ?_
  refine W.reg [0, 1, 2, 3, 4, 5, 6, 7] rfl ?_
  refine S.sil 7 rfl rfl (fun _ hF => .fieldAddrC lay83 rfl rfl (lk 1 rfl rfl) rfl (flL_c (show flen _ = 1 from rfl) flL_nil)) ?_
  refine S.sil 8 rfl rfl (fun _ hF => .loadC sz3 ag3 (lk 0 rfl rfl) rfl rfl) ?_
  refine S.sil 9 rfl rfl (fun _ hF => .lss (lk 0 rfl rfl) cI) ?_
  refine S.sil 10 rfl rfl (fun _ hF => .move (lk 0 rfl rfl)) ?_
  refine S.gsil 11 3 10 false rfl rfl rfl (lk 0 rfl rfl) (fun hB _ hF => .fieldAddrC lay83 rfl rfl (lk 5 rfl rfl) rfl (flL_c (show flen _ = 1 from rfl) flL_nil)) ?_
  refine S.gsil 12 3 10 false rfl rfl rfl (lk 1 rfl rfl) (fun hB _ hF => .loadC sz3 ag3 (ifT hB (lk 0 rfl rfl)) rfl rfl) ?_
  refine S.gsil 13 3 10 false rfl rfl rfl (lk 2 rfl rfl) (fun hB _ hF => .gtr (ifT hB (lk 0 rfl rfl)) cI) ?_
  refine S.sil 14 rfl rfl (fun _ hF => .pickOr (lk 3 rfl rfl) cB (fun h => ifT h (lk 0 rfl rfl))) ?_
  refine S.nil ?_
  refine thenQ_n ?_
  refine AWp.condM (lk 0 rfl rfl) h (fun c1 h => ?_) (fun c1 h => ?_)
  · skip
    refine AWp.seq ?_
    refine W.reg [0] rfl ?_
    refine S.sil 4 rfl rfl (fun _ hF => .assign cI) ?_
    refine S.nil ?_
    refine thenQ_n ?_
    refine AWp.ret ?_
    refine thenQ_r ?_
    obtain rfl := h.ret
    exact endF1 rfl (Wk.selS [0] (by decide) rfl (SelE.leaf (lk 0 rfl rfl) rfl (.refl _) (fun m => ((TyOk.int .i64).lt _ _)) .nil) (.cons (lt_cells (ty_A16_TField.lt _ _)) rfl (RSub.trans (.refl _) (.eq (ty_A16_TField.cl _ _).symm)) .nil)) (.tmp (lk 0 rfl rfl) rfl) rfl rfl
  · skip
    refine AWp.skip ?_
    refine thenQ_n ?_
    refine AWp.seq ?_
    refine W.regF (fun H => H[0]? = some (.cells (E_A16_TField b2))) rfl [0, 1, 2, 3, 4, 5, 6, 7, 8] mixed ?_
    refine S.sil 15 rfl rfl (fun _ hF => .move (lk 10 rfl rfl)) ?_
    refine S.sil 16 rfl rfl (fun _ hF => .fieldAddrC lay83 rfl rfl (lk 10 rfl rfl) rfl (flL_c (show flen _ = 1 from rfl) flL_nil)) ?_
    refine S.sil 17 rfl rfl (fun _ hF => .loadC sz3 ag3 (lk 0 rfl rfl) rfl rfl) ?_
    refine S.sil 18 rfl rfl (fun _ hF => .nilCheck (lk 2 rfl rfl) rfl) ?_
    obtain ⟨k3, m3, h⟩ := h.bnd
    refine S.sil 19 rfl rfl (fun _ hF => .ixP arr81 (lk 0 rfl rfl) (lk 1 rfl rfl) m3) ?_
    obtain ⟨v4, ev4, h⟩ := h.nam
    refine S.sil 20 rfl rfl (fun _ hF => .nv (.loadP sz42 ag42 (lk 0 rfl rfl) hF (.vc k3 .nil) (by first | rfl | omega) (ty_TField.fl (b2.get k3)) rfl) (congrArg E_TField ev4.symm)) ?_
    refine S.new 5 rfl rfl (.alloc zv42) rfl ?_
    refine S.effN rfl rfl (.storeP sz42 (lk 0 rfl rfl) (lk 1 rfl rfl) rfl (.refl _) rfl .nil (by first | rfl | omega) .nil (ty_TField.fl v4) (fl_st (flL_c (show flen _ = 1 from rfl) (flL_c (show flen _ = 1 from rfl) (flL_c (show flen _ = 1 from rfl) (flL_c (ty_TCounter.fl (default : TCounter)) (flL_c (ty_TLock.fl (default : TLock)) (flL_c (show flen _ = 1 from rfl) flL_nil))))))) rfl) rfl ?_
    refine S.sil 6 rfl rfl (fun _ hF => .assign cI) ?_
    refine S.nilD (by kernel_rfl) ?_
    refine thenQ_n ?_
    refine AWp.prune (.eq (lk 0 rfl rfl) rfl (.eq (lk 1 rfl rfl) rfl (.eq (lk 16 rfl rfl) rfl (.eq (lk 17 rfl rfl) rfl (.eq (lk 18 rfl rfl) rfl .nil))))) ?_
    refine AWp.seq ?_
    refine AWp.seq ?_
    refine W.reg [0, 1] rfl ?_
    refine S.sil 21 rfl rfl (fun _ hF => .fieldAddrC lay83 rfl rfl (lk 3 rfl rfl) rfl flL_nil) ?_
    refine S.sil 22 rfl rfl (fun _ hF => .loadC sz3 ag3 (lk 0 rfl rfl) rfl rfl) ?_
    refine S.nil ?_
    refine thenQ_n ?_
    refine AWp.block ?_
    refine AWp.seq ?_
    refine W.reg [0, 1] rfl ?_
    refine S.sil 24 rfl rfl (fun _ hF => .eql (lk 0 rfl rfl) cI) ?_
    refine S.sil 23 rfl rfl (fun _ hF => .assign (lk 0 rfl rfl)) ?_
    refine S.nil ?_
    refine thenQ_n ?_
    refine AWp.condM (lk 0 rfl rfl) h (fun c2 h => ?_) (fun c2 h => ?_)
    · skip
      refine W.reg [0, 1, 2, 3, 4, 5, 6, 7, 8, 9, 10] rfl ?_
      refine S.qui 26 rfl rfl (fun _ => .loadP sz42 ag42 (lk 5 rfl rfl) rfl .nil (by first | rfl | omega) (ty_TField.fl v4) rfl) ?_
      refine S.sil 27 rfl rfl (fun _ hF => .fieldAddrC lay83 rfl rfl (lk 8 rfl rfl) rfl (flL_c (show flen _ = 1 from rfl) flL_nil)) ?_
      refine S.sil 28 rfl rfl (fun _ hF => .loadC sz3 ag3 (lk 0 rfl rfl) rfl rfl) ?_
      refine S.sil 29 rfl rfl (fun _ hF => .fieldAddrC lay83 rfl rfl (lk 10 rfl rfl) rfl (flL_c (show flen _ = 1 from rfl) (flL_c (show flen _ = 1 from rfl) (flL_c (show flen _ = 1 from rfl) flL_nil)))) ?_
      refine S.sil 30 rfl rfl (fun _ hF => .loadC sz3 ag3 (lk 0 rfl rfl) rfl rfl) ?_
      obtain ⟨r5, m5, h⟩ := h.bnd
      refine S.sil 31 rfl rfl (fun _ hF => .callQ ent24 cF (.c (lk 4 rfl rfl) (V.sub.refl _) (.c (lk 2 rfl rfl) (V.sub.refl _) (.c (lk 0 rfl rfl) (V.sub.refl _) .nil))) (C_field_Add m5)) ?_
      refine S.sil 25 rfl rfl (fun _ hF => .move (lk 0 rfl rfl)) ?_
      refine S.sil 32 rfl rfl (fun _ hF => .extract (lk 0 rfl rfl) rfl) ?_
      refine S.sil 33 rfl rfl (fun _ hF => .extract (lk 1 rfl rfl) rfl) ?_
      refine S.effN rfl rfl (.nf (H2 := [.cells (E_A16_TField b2), .dead, .cells (E_TField r5.1)]) (.storeP sz42 (lk 14 rfl rfl) (lk 1 rfl rfl) rfl (.refl _) rfl .nil (by first | rfl | omega) .nil (ty_TField.fl r5.1) (ty_TField.fl v4) rfl) rfl rfl) trivial ?_
      refine S.sil 6 rfl rfl (fun _ hF => .assign (lk 0 rfl rfl)) ?_
      refine S.nil ?_
      refine blockQ_n ?_
      refine thenQ_n ?_
      refine AWp.prune (.eq (lk 0 rfl rfl) rfl (.eq (lk 15 rfl rfl) rfl (.eq (lk 16 rfl rfl) rfl (.eq (lk 17 rfl rfl) rfl (.eq (lk 18 rfl rfl) rfl .nil))))) ?_
      refine AWp.seq ?_
      refine AWp.seq ?_
      refine W.reg [0, 1] rfl ?_
      refine S.sil 130 rfl rfl (fun _ hF => .move (lk 0 rfl rfl)) ?_
      refine S.sil 131 rfl rfl (fun _ hF => .eql (lk 0 rfl rfl) cI) ?_
      refine S.nil ?_
      refine thenQ_n ?_
      refine AWp.condM (lk 0 rfl rfl) h (fun c3 h => ?_) (fun c3 h => ?_)
      · skip
        refine W.regF (fun H => H[2]? = some (.cells (E_TField r5.1))) rfl [0, 1, 2, 3, 4, 5, 6] mixed ?_
        refine S.sil 132 rfl rfl (fun _ hF => .move (lk 6 rfl rfl)) ?_
        refine S.sil 133 rfl rfl (fun _ hF => .fieldAddrC lay83 rfl rfl (lk 6 rfl rfl) rfl (flL_c (show flen _ = 1 from rfl) flL_nil)) ?_
        refine S.sil 134 rfl rfl (fun _ hF => .loadC sz3 ag3 (lk 0 rfl rfl) rfl rfl) ?_
        refine S.sil 135 rfl rfl (fun _ hF => .loadP sz42 ag42 (lk 6 rfl rfl) hF .nil (by first | rfl | omega) (ty_TField.fl r5.1) rfl) ?_
        refine S.sil 136 rfl rfl (fun _ hF => .nilCheck (lk 3 rfl rfl) rfl) ?_
        obtain ⟨k6, m6, h⟩ := h.bnd
        refine S.sil 137 rfl rfl (fun _ hF => .ixP arr81 (lk 0 rfl rfl) (lk 2 rfl rfl) m6) ?_
        obtain ⟨v7, ev7, h⟩ := h.nam
        refine S.effN rfl rfl (.storeP sz42 (lk 0 rfl rfl) (lk 2 rfl rfl) rfl (.refl _) rfl (.vc k6 .nil) (by first | rfl | omega) (.vc r5.1 k6 .nil) (ty_TField.fl r5.1) (ty_TField.fl (b2.get k6)) (congrArg (fun z => ([AObj.cells (E_A16_TField z), .dead, .cells (E_TField r5.1)] : List AObj)) ev7.symm)) rfl ?_
        refine S.nilD (by kernel_rfl) ?_
        refine thenQ_n ?_
        refine AWp.prune (.eq (lk 8 rfl rfl) rfl (.eq (lk 10 rfl rfl) rfl .nil)) ?_
        refine AWp.seq ?_
        refine W.reg [0, 1] rfl ?_
        refine S.sil 138 rfl rfl (fun _ hF => .move (lk 0 rfl rfl)) ?_
        refine S.sil 4 rfl rfl (fun _ hF => .assign (lk 0 rfl rfl)) ?_
        refine S.nil ?_
        refine thenQ_n ?_
        refine AWp.ret ?_
        obtain rfl := h.ret
        exact endF1 rfl (Wk.selS [0] (by decide) rfl (SelE.leaf (lk 0 rfl rfl) rfl (.refl _) (fun m => ((TyOk.int .i64).lt _ _)) .nil) (.cons (lt_cells (ty_A16_TField.lt _ _)) rfl (RSub.trans (.refl _) (.eq (ty_A16_TField.cl _ _).symm)) .nil)) (.tmp (lk 0 rfl rfl) rfl) rfl rfl
      · skip
        refine AWp.skip ?_
        refine thenQ_n ?_
        refine AWp.seq ?_
        refine W.reg [0, 1] rfl ?_
        refine S.sil 138 rfl rfl (fun _ hF => .move (lk 2 rfl rfl)) ?_
        refine S.sil 4 rfl rfl (fun _ hF => .assign (lk 0 rfl rfl)) ?_
        refine S.nil ?_
        refine thenQ_n ?_
        refine AWp.ret ?_
        obtain rfl := h.ret
        exact endF1 rfl (Wk.selS [0] (by decide) rfl (SelE.leaf (lk 0 rfl rfl) rfl (.refl _) (fun m => ((TyOk.int .i64).lt _ _)) .nil) (.cons (lt_cells (ty_A16_TField.lt _ _)) rfl (RSub.trans (.refl _) (.eq (ty_A16_TField.cl _ _).symm)) .nil)) (.tmp (lk 0 rfl rfl) rfl) rfl rfl
    · skip
      refine AWp.seq ?_
      refine W.reg [0, 1] rfl ?_
      refine S.sil 35 rfl rfl (fun _ hF => .eql (lk 2 rfl rfl) cI) ?_
      refine S.sil 34 rfl rfl (fun _ hF => .assign (lk 0 rfl rfl)) ?_
      refine S.nil ?_
      refine thenQ_n ?_
      refine AWp.condM (lk 0 rfl rfl) h (fun c4 h => ?_) (fun c4 h => ?_)
      · skip
        refine W.reg [0, 1, 2, 3, 4, 5, 6, 7, 8, 9, 10, 11, 12, 13, 14] rfl ?_
        refine S.qui 37 rfl rfl (fun _ => .loadP sz42 ag42 (lk 7 rfl rfl) rfl .nil (by first | rfl | omega) (ty_TField.fl v4) rfl) ?_
        refine S.sil 38 rfl rfl (fun _ hF => .fieldAddrC lay83 rfl rfl (lk 10 rfl rfl) rfl (flL_c (show flen _ = 1 from rfl) flL_nil)) ?_
        refine S.sil 39 rfl rfl (fun _ hF => .loadC sz3 ag3 (lk 0 rfl rfl) rfl rfl) ?_
        refine S.sil 40 rfl rfl (fun _ hF => .fieldAddrC lay83 rfl rfl (lk 12 rfl rfl) rfl (flL_c (show flen _ = 1 from rfl) (flL_c (show flen _ = 1 from rfl) flL_nil))) ?_
        refine S.sil 41 rfl rfl (fun _ hF => .loadC sz3 ag3 (lk 0 rfl rfl) rfl rfl) ?_
        refine S.sil 42 rfl rfl (fun _ hF => .fieldAddrC lay83 rfl rfl (lk 14 rfl rfl) rfl (flL_c (show flen _ = 1 from rfl) (flL_c (show flen _ = 1 from rfl) (flL_c (show flen _ = 1 from rfl) flL_nil)))) ?_
        refine S.sil 43 rfl rfl (fun _ hF => .loadC sz3 ag3 (lk 0 rfl rfl) rfl rfl) ?_
        refine S.sil 44 rfl rfl (fun _ hF => .fieldAddrC lay83 rfl rfl (lk 16 rfl rfl) rfl (flL_c (show flen _ = 1 from rfl) (flL_c (show flen _ = 1 from rfl) (flL_c (show flen _ = 1 from rfl) (flL_c (show flen _ = 1 from rfl) flL_nil))))) ?_
        refine S.sil 45 rfl rfl (fun _ hF => .loadC sz3 ag3 (lk 0 rfl rfl) rfl rfl) ?_
        obtain ⟨r8, m8, h⟩ := h.bnd
        refine S.sil 46 rfl rfl (fun _ hF => .callQ ent26 cF (.c (lk 8 rfl rfl) (V.sub.refl _) (.c (lk 6 rfl rfl) (V.sub.refl _) (.c (lk 4 rfl rfl) (V.sub.refl _) (.c (lk 2 rfl rfl) (V.sub.refl _) (.c (lk 0 rfl rfl) (V.sub.refl _) .nil))))) (C_field_Hand m8)) ?_
        refine S.sil 36 rfl rfl (fun _ hF => .move (lk 0 rfl rfl)) ?_
        refine S.sil 47 rfl rfl (fun _ hF => .extract (lk 0 rfl rfl) rfl) ?_
        refine S.sil 48 rfl rfl (fun _ hF => .extract (lk 1 rfl rfl) rfl) ?_
        refine S.effN rfl rfl (.nf (H2 := [.cells (E_A16_TField b2), .dead, .cells (E_TField r8.1)]) (.storeP sz42 (lk 20 rfl rfl) (lk 1 rfl rfl) rfl (.refl _) rfl .nil (by first | rfl | omega) .nil (ty_TField.fl r8.1) (ty_TField.fl v4) rfl) rfl rfl) trivial ?_
        refine S.sil 6 rfl rfl (fun _ hF => .assign (lk 0 rfl rfl)) ?_
        refine S.nil ?_
        refine blockQ_n ?_
        refine thenQ_n ?_
        refine AWp.prune (.eq (lk 0 rfl rfl) rfl (.eq (lk 21 rfl rfl) rfl (.eq (lk 22 rfl rfl) rfl (.eq (lk 23 rfl rfl) rfl (.eq (lk 24 rfl rfl) rfl .nil))))) ?_
        refine AWp.seq ?_
        refine AWp.seq ?_
        refine W.reg [0, 1] rfl ?_
        refine S.sil 130 rfl rfl (fun _ hF => .move (lk 0 rfl rfl)) ?_
        refine S.sil 131 rfl rfl (fun _ hF => .eql (lk 0 rfl rfl) cI) ?_
        refine S.nil ?_
        refine thenQ_n ?_
        refine AWp.condM (lk 0 rfl rfl) h (fun c5 h => ?_) (fun c5 h => ?_)
        · skip
          refine W.regF (fun H => H[2]? = some (.cells (E_TField r8.1))) rfl [0, 1, 2, 3, 4, 5, 6] mixed ?_
          refine S.sil 132 rfl rfl (fun _ hF => .move (lk 6 rfl rfl)) ?_
          refine S.sil 133 rfl rfl (fun _ hF => .fieldAddrC lay83 rfl rfl (lk 6 rfl rfl) rfl (flL_c (show flen _ = 1 from rfl) flL_nil)) ?_
          refine S.sil 134 rfl rfl (fun _ hF => .loadC sz3 ag3 (lk 0 rfl rfl) rfl rfl) ?_
          refine S.sil 135 rfl rfl (fun _ hF => .loadP sz42 ag42 (lk 6 rfl rfl) hF .nil (by first | rfl | omega) (ty_TField.fl r8.1) rfl) ?_
          refine S.sil 136 rfl rfl (fun _ hF => .nilCheck (lk 3 rfl rfl) rfl) ?_
          obtain ⟨k9, m9, h⟩ := h.bnd
          refine S.sil 137 rfl rfl (fun _ hF => .ixP arr81 (lk 0 rfl rfl) (lk 2 rfl rfl) m9) ?_
          obtain ⟨v10, ev10, h⟩ := h.nam
          refine S.effN rfl rfl (.storeP sz42 (lk 0 rfl rfl) (lk 2 rfl rfl) rfl (.refl _) rfl (.vc k9 .nil) (by first | rfl | omega) (.vc r8.1 k9 .nil) (ty_TField.fl r8.1) (ty_TField.fl (b2.get k9)) (congrArg (fun z => ([AObj.cells (E_A16_TField z), .dead, .cells (E_TField r8.1)] : List AObj)) ev10.symm)) rfl ?_
          refine S.nilD (by kernel_rfl) ?_
          refine thenQ_n ?_
          refine AWp.prune (.eq (lk 8 rfl rfl) rfl (.eq (lk 10 rfl rfl) rfl .nil)) ?_
          refine AWp.seq ?_
          refine W.reg [0, 1] rfl ?_
          refine S.sil 138 rfl rfl (fun _ hF => .move (lk 0 rfl rfl)) ?_
          refine S.sil 4 rfl rfl (fun _ hF => .assign (lk 0 rfl rfl)) ?_
          refine S.nil ?_
          refine thenQ_n ?_
          refine AWp.ret ?_
          obtain rfl := h.ret
          exact endF1 rfl (Wk.selS [0] (by decide) rfl (SelE.leaf (lk 0 rfl rfl) rfl (.refl _) (fun m => ((TyOk.int .i64).lt _ _)) .nil) (.cons (lt_cells (ty_A16_TField.lt _ _)) rfl (RSub.trans (.refl _) (.eq (ty_A16_TField.cl _ _).symm)) .nil)) (.tmp (lk 0 rfl rfl) rfl) rfl rfl
        · skip
          refine AWp.skip ?_
          refine thenQ_n ?_
          refine AWp.seq ?_
          refine W.reg [0, 1] rfl ?_
          refine S.sil 138 rfl rfl (fun _ hF => .move (lk 2 rfl rfl)) ?_
          refine S.sil 4 rfl rfl (fun _ hF => .assign (lk 0 rfl rfl)) ?_
          refine S.nil ?_
          refine thenQ_n ?_
          refine AWp.ret ?_
          obtain rfl := h.ret
          exact endF1 rfl (Wk.selS [0] (by decide) rfl (SelE.leaf (lk 0 rfl rfl) rfl (.refl _) (fun m => ((TyOk.int .i64).lt _ _)) .nil) (.cons (lt_cells (ty_A16_TField.lt _ _)) rfl (RSub.trans (.refl _) (.eq (ty_A16_TField.cl _ _).symm)) .nil)) (.tmp (lk 0 rfl rfl) rfl) rfl rfl
      · skip
        refine AWp.seq ?_
        refine W.reg [0, 1] rfl ?_
        refine S.sil 50 rfl rfl (fun _ hF => .eql (lk 4 rfl rfl) cI) ?_
        refine S.sil 49 rfl rfl (fun _ hF => .assign (lk 0 rfl rfl)) ?_
        refine S.nil ?_
        refine thenQ_n ?_
        refine AWp.condM (lk 0 rfl rfl) h (fun c6 h => ?_) (fun c6 h => ?_)
        · skip
          refine W.reg [0, 1, 2, 3, 4, 5, 6, 7, 8, 9, 10, 11, 12, 13] rfl ?_
          refine S.qui 52 rfl rfl (fun _ => .loadP sz42 ag42 (lk 9 rfl rfl) rfl .nil (by first | rfl | omega) (ty_TField.fl v4) rfl) ?_
          refine S.sil 53 rfl rfl (fun _ hF => .fieldAddrC lay83 rfl rfl (lk 12 rfl rfl) rfl (flL_c (show flen _ = 1 from rfl) flL_nil)) ?_
          refine S.sil 54 rfl rfl (fun _ hF => .loadC sz3 ag3 (lk 0 rfl rfl) rfl rfl) ?_
          refine S.sil 55 rfl rfl (fun _ hF => .fieldAddrC lay83 rfl rfl (lk 14 rfl rfl) rfl (flL_c (show flen _ = 1 from rfl) (flL_c (show flen _ = 1 from rfl) (flL_c (show flen _ = 1 from rfl) flL_nil)))) ?_
          refine S.sil 56 rfl rfl (fun _ hF => .loadC sz3 ag3 (lk 0 rfl rfl) rfl rfl) ?_
          refine S.sil 57 rfl rfl (fun _ hF => .fieldAddrC lay83 rfl rfl (lk 16 rfl rfl) rfl (flL_c (show flen _ = 1 from rfl) (flL_c (show flen _ = 1 from rfl) (flL_c (show flen _ = 1 from rfl) (flL_c (show flen _ = 1 from rfl) flL_nil))))) ?_
          refine S.sil 58 rfl rfl (fun _ hF => .loadC sz3 ag3 (lk 0 rfl rfl) rfl rfl) ?_
          obtain ⟨r11, m11, h⟩ := h.bnd
          refine S.sil 59 rfl rfl (fun _ hF => .callQ ent47 cF (.c (lk 6 rfl rfl) (V.sub.refl _) (.c (lk 4 rfl rfl) (V.sub.refl _) (.c (lk 2 rfl rfl) (V.sub.refl _) (.c (lk 0 rfl rfl) (V.sub.refl _) .nil)))) (C_field_Reserve m11)) ?_
          refine S.sil 51 rfl rfl (fun _ hF => .move (lk 0 rfl rfl)) ?_
          refine S.sil 60 rfl rfl (fun _ hF => .extract (lk 0 rfl rfl) rfl) ?_
          refine S.sil 61 rfl rfl (fun _ hF => .extract (lk 1 rfl rfl) rfl) ?_
          refine S.sil 62 rfl rfl (fun _ hF => .extract (lk 2 rfl rfl) rfl) ?_
          refine S.effN rfl rfl (.nf (H2 := [.cells (E_A16_TField b2), .dead, .cells (E_TField r11.1)]) (.storeP sz42 (lk 21 rfl rfl) (lk 2 rfl rfl) rfl (.refl _) rfl .nil (by first | rfl | omega) .nil (ty_TField.fl r11.1) (ty_TField.fl v4) rfl) rfl rfl) trivial ?_
          refine S.sil 6 rfl rfl (fun _ hF => .assign (lk 0 rfl rfl)) ?_
          refine S.nil ?_
          refine blockQ_n ?_
          refine thenQ_n ?_
          refine AWp.prune (.eq (lk 0 rfl rfl) rfl (.eq (lk 22 rfl rfl) rfl (.eq (lk 23 rfl rfl) rfl (.eq (lk 24 rfl rfl) rfl (.eq (lk 25 rfl rfl) rfl .nil))))) ?_
          refine AWp.seq ?_
          refine AWp.seq ?_
          refine W.reg [0, 1] rfl ?_
          refine S.sil 130 rfl rfl (fun _ hF => .move (lk 0 rfl rfl)) ?_
          refine S.sil 131 rfl rfl (fun _ hF => .eql (lk 0 rfl rfl) cI) ?_
          refine S.nil ?_
          refine thenQ_n ?_
          refine AWp.condM (lk 0 rfl rfl) h (fun c7 h => ?_) (fun c7 h => ?_)
          · skip
            refine W.regF (fun H => H[2]? = some (.cells (E_TField r11.1))) rfl [0, 1, 2, 3, 4, 5, 6] mixed ?_
            refine S.sil 132 rfl rfl (fun _ hF => .move (lk 6 rfl rfl)) ?_
            refine S.sil 133 rfl rfl (fun _ hF => .fieldAddrC lay83 rfl rfl (lk 6 rfl rfl) rfl (flL_c (show flen _ = 1 from rfl) flL_nil)) ?_
            refine S.sil 134 rfl rfl (fun _ hF => .loadC sz3 ag3 (lk 0 rfl rfl) rfl rfl) ?_
            refine S.sil 135 rfl rfl (fun _ hF => .loadP sz42 ag42 (lk 6 rfl rfl) hF .nil (by first | rfl | omega) (ty_TField.fl r11.1) rfl) ?_
            refine S.sil 136 rfl rfl (fun _ hF => .nilCheck (lk 3 rfl rfl) rfl) ?_
            obtain ⟨k12, m12, h⟩ := h.bnd
            refine S.sil 137 rfl rfl (fun _ hF => .ixP arr81 (lk 0 rfl rfl) (lk 2 rfl rfl) m12) ?_
            obtain ⟨v13, ev13, h⟩ := h.nam
            refine S.effN rfl rfl (.storeP sz42 (lk 0 rfl rfl) (lk 2 rfl rfl) rfl (.refl _) rfl (.vc k12 .nil) (by first | rfl | omega) (.vc r11.1 k12 .nil) (ty_TField.fl r11.1) (ty_TField.fl (b2.get k12)) (congrArg (fun z => ([AObj.cells (E_A16_TField z), .dead, .cells (E_TField r11.1)] : List AObj)) ev13.symm)) rfl ?_
            refine S.nilD (by kernel_rfl) ?_
            refine thenQ_n ?_
            refine AWp.prune (.eq (lk 8 rfl rfl) rfl (.eq (lk 10 rfl rfl) rfl .nil)) ?_
            refine AWp.seq ?_
            refine W.reg [0, 1] rfl ?_
            refine S.sil 138 rfl rfl (fun _ hF => .move (lk 0 rfl rfl)) ?_
            refine S.sil 4 rfl rfl (fun _ hF => .assign (lk 0 rfl rfl)) ?_
            refine S.nil ?_
            refine thenQ_n ?_
            refine AWp.ret ?_
            obtain rfl := h.ret
            exact endF1 rfl (Wk.selS [0] (by decide) rfl (SelE.leaf (lk 0 rfl rfl) rfl (.refl _) (fun m => ((TyOk.int .i64).lt _ _)) .nil) (.cons (lt_cells (ty_A16_TField.lt _ _)) rfl (RSub.trans (.refl _) (.eq (ty_A16_TField.cl _ _).symm)) .nil)) (.tmp (lk 0 rfl rfl) rfl) rfl rfl
          · skip
            refine AWp.skip ?_
            refine thenQ_n ?_
            refine AWp.seq ?_
            refine W.reg [0, 1] rfl ?_
            refine S.sil 138 rfl rfl (fun _ hF => .move (lk 2 rfl rfl)) ?_
            refine S.sil 4 rfl rfl (fun _ hF => .assign (lk 0 rfl rfl)) ?_
            refine S.nil ?_
            refine thenQ_n ?_
            refine AWp.ret ?_
            obtain rfl := h.ret
            exact endF1 rfl (Wk.selS [0] (by decide) rfl (SelE.leaf (lk 0 rfl rfl) rfl (.refl _) (fun m => ((TyOk.int .i64).lt _ _)) .nil) (.cons (lt_cells (ty_A16_TField.lt _ _)) rfl (RSub.trans (.refl _) (.eq (ty_A16_TField.cl _ _).symm)) .nil)) (.tmp (lk 0 rfl rfl) rfl) rfl rfl
        · skip
          refine AWp.seq ?_
          refine W.reg [0, 1] rfl ?_
          refine S.sil 64 rfl rfl (fun _ hF => .eql (lk 6 rfl rfl) cI) ?_
          refine S.sil 63 rfl rfl (fun _ hF => .assign (lk 0 rfl rfl)) ?_
          refine S.nil ?_
          refine thenQ_n ?_
          refine AWp.condM (lk 0 rfl rfl) h (fun c8 h => ?_) (fun c8 h => ?_)
          · skip
            refine W.reg [0, 1, 2, 3, 4, 5, 6, 7, 8, 9, 10, 11, 12] rfl ?_
            refine S.qui 66 rfl rfl (fun _ => .loadP sz42 ag42 (lk 11 rfl rfl) rfl .nil (by first | rfl | omega) (ty_TField.fl v4) rfl) ?_
            refine S.sil 67 rfl rfl (fun _ hF => .fieldAddrC lay83 rfl rfl (lk 14 rfl rfl) rfl (flL_c (show flen _ = 1 from rfl) flL_nil)) ?_
            refine S.sil 68 rfl rfl (fun _ hF => .loadC sz3 ag3 (lk 0 rfl rfl) rfl rfl) ?_
            refine S.sil 69 rfl rfl (fun _ hF => .fieldAddrC lay83 rfl rfl (lk 16 rfl rfl) rfl (flL_c (show flen _ = 1 from rfl) (flL_c (show flen _ = 1 from rfl) (flL_c (show flen _ = 1 from rfl) flL_nil)))) ?_
            refine S.sil 70 rfl rfl (fun _ hF => .loadC sz3 ag3 (lk 0 rfl rfl) rfl rfl) ?_
            refine S.sil 71 rfl rfl (fun _ hF => .fieldAddrC lay83 rfl rfl (lk 18 rfl rfl) rfl (flL_c (show flen _ = 1 from rfl) (flL_c (show flen _ = 1 from rfl) (flL_c (show flen _ = 1 from rfl) (flL_c (show flen _ = 1 from rfl) flL_nil))))) ?_
            refine S.sil 72 rfl rfl (fun _ hF => .loadC sz3 ag3 (lk 0 rfl rfl) rfl rfl) ?_
            obtain ⟨r14, m14, h⟩ := h.bnd
            refine S.sil 73 rfl rfl (fun _ hF => .callQ ent48 cF (.c (lk 6 rfl rfl) (V.sub.refl _) (.c (lk 4 rfl rfl) (V.sub.refl _) (.c (lk 2 rfl rfl) (V.sub.refl _) (.c (lk 0 rfl rfl) (V.sub.refl _) .nil)))) (C_field_End m14)) ?_
            refine S.sil 65 rfl rfl (fun _ hF => .move (lk 0 rfl rfl)) ?_
            refine S.sil 74 rfl rfl (fun _ hF => .extract (lk 0 rfl rfl) rfl) ?_
            refine S.sil 75 rfl rfl (fun _ hF => .extract (lk 1 rfl rfl) rfl) ?_
            refine S.effN rfl rfl (.nf (H2 := [.cells (E_A16_TField b2), .dead, .cells (E_TField r14.1)]) (.storeP sz42 (lk 22 rfl rfl) (lk 1 rfl rfl) rfl (.refl _) rfl .nil (by first | rfl | omega) .nil (ty_TField.fl r14.1) (ty_TField.fl v4) rfl) rfl rfl) trivial ?_
            refine S.sil 6 rfl rfl (fun _ hF => .assign (lk 0 rfl rfl)) ?_
            refine S.nil ?_
            refine blockQ_n ?_
            refine thenQ_n ?_
            refine AWp.prune (.eq (lk 0 rfl rfl) rfl (.eq (lk 23 rfl rfl) rfl (.eq (lk 24 rfl rfl) rfl (.eq (lk 25 rfl rfl) rfl (.eq (lk 26 rfl rfl) rfl .nil))))) ?_
            refine AWp.seq ?_
            refine AWp.seq ?_
            refine W.reg [0, 1] rfl ?_
            refine S.sil 130 rfl rfl (fun _ hF => .move (lk 0 rfl rfl)) ?_
            refine S.sil 131 rfl rfl (fun _ hF => .eql (lk 0 rfl rfl) cI) ?_
            refine S.nil ?_
            refine thenQ_n ?_
            refine AWp.condM (lk 0 rfl rfl) h (fun c9 h => ?_) (fun c9 h => ?_)
            · skip
              refine W.regF (fun H => H[2]? = some (.cells (E_TField r14.1))) rfl [0, 1, 2, 3, 4, 5, 6] mixed ?_
              refine S.sil 132 rfl rfl (fun _ hF => .move (lk 6 rfl rfl)) ?_
              refine S.sil 133 rfl rfl (fun _ hF => .fieldAddrC lay83 rfl rfl (lk 6 rfl rfl) rfl (flL_c (show flen _ = 1 from rfl) flL_nil)) ?_
              refine S.sil 134 rfl rfl (fun _ hF => .loadC sz3 ag3 (lk 0 rfl rfl) rfl rfl) ?_
              refine S.sil 135 rfl rfl (fun _ hF => .loadP sz42 ag42 (lk 6 rfl rfl) hF .nil (by first | rfl | omega) (ty_TField.fl r14.1) rfl) ?_
              refine S.sil 136 rfl rfl (fun _ hF => .nilCheck (lk 3 rfl rfl) rfl) ?_
              obtain ⟨k15, m15, h⟩ := h.bnd
              refine S.sil 137 rfl rfl (fun _ hF => .ixP arr81 (lk 0 rfl rfl) (lk 2 rfl rfl) m15) ?_
              obtain ⟨v16, ev16, h⟩ := h.nam
              refine S.effN rfl rfl (.storeP sz42 (lk 0 rfl rfl) (lk 2 rfl rfl) rfl (.refl _) rfl (.vc k15 .nil) (by first | rfl | omega) (.vc r14.1 k15 .nil) (ty_TField.fl r14.1) (ty_TField.fl (b2.get k15)) (congrArg (fun z => ([AObj.cells (E_A16_TField z), .dead, .cells (E_TField r14.1)] : List AObj)) ev16.symm)) rfl ?_
              refine S.nilD (by kernel_rfl) ?_
              refine thenQ_n ?_
              refine AWp.prune (.eq (lk 8 rfl rfl) rfl (.eq (lk 10 rfl rfl) rfl .nil)) ?_
              refine AWp.seq ?_
              refine W.reg [0, 1] rfl ?_
              refine S.sil 138 rfl rfl (fun _ hF => .move (lk 0 rfl rfl)) ?_
              refine S.sil 4 rfl rfl (fun _ hF => .assign (lk 0 rfl rfl)) ?_
              refine S.nil ?_
              refine thenQ_n ?_
              refine AWp.ret ?_
              obtain rfl := h.ret
              exact endF1 rfl (Wk.selS [0] (by decide) rfl (SelE.leaf (lk 0 rfl rfl) rfl (.refl _) (fun m => ((TyOk.int .i64).lt _ _)) .nil) (.cons (lt_cells (ty_A16_TField.lt _ _)) rfl (RSub.trans (.refl _) (.eq (ty_A16_TField.cl _ _).symm)) .nil)) (.tmp (lk 0 rfl rfl) rfl) rfl rfl
            · skip
              refine AWp.skip ?_
              refine thenQ_n ?_
              refine AWp.seq ?_
              refine W.reg [0, 1] rfl ?_
              refine S.sil 138 rfl rfl (fun _ hF => .move (lk 2 rfl rfl)) ?_
              refine S.sil 4 rfl rfl (fun _ hF => .assign (lk 0 rfl rfl)) ?_
              refine S.nil ?_
              refine thenQ_n ?_
              refine AWp.ret ?_
              obtain rfl := h.ret
              exact endF1 rfl (Wk.selS [0] (by decide) rfl (SelE.leaf (lk 0 rfl rfl) rfl (.refl _) (fun m => ((TyOk.int .i64).lt _ _)) .nil) (.cons (lt_cells (ty_A16_TField.lt _ _)) rfl (RSub.trans (.refl _) (.eq (ty_A16_TField.cl _ _).symm)) .nil)) (.tmp (lk 0 rfl rfl) rfl) rfl rfl
          · skip
            refine AWp.seq ?_
            refine W.reg [0, 1] rfl ?_
            refine S.sil 77 rfl rfl (fun _ hF => .eql (lk 8 rfl rfl) cI) ?_
            refine S.sil 76 rfl rfl (fun _ hF => .assign (lk 0 rfl rfl)) ?_
            refine S.nil ?_
            refine thenQ_n ?_
            refine AWp.prune (.eq (lk 0 rfl rfl) rfl (.eq (lk 10 rfl rfl) rfl (.eq (lk 12 rfl rfl) rfl (.eq (lk 13 rfl rfl) rfl (.eq (lk 14 rfl rfl) rfl (.eq (lk 15 rfl rfl) rfl (.eq (lk 16 rfl rfl) rfl .nil))))))) ?_
            refine AWp.condM (lk 0 rfl rfl) h (fun c10 h => ?_) (fun c10 h => ?_)
            · skip
              refine AWp.seq ?_
              refine W.reg [0, 1, 2, 3, 4, 5, 6, 7, 8, 9] rfl ?_
              refine S.qui 79 rfl rfl (fun _ => .loadP sz42 ag42 (lk 3 rfl rfl) rfl .nil (by first | rfl | omega) (ty_TField.fl v4) rfl) ?_
              refine S.sil 80 rfl rfl (fun _ hF => .fieldAddrC lay83 rfl rfl (lk 6 rfl rfl) rfl (flL_c (show flen _ = 1 from rfl) flL_nil)) ?_
              refine S.sil 81 rfl rfl (fun _ hF => .loadC sz3 ag3 (lk 0 rfl rfl) rfl rfl) ?_
              refine S.sil 82 rfl rfl (fun _ hF => .fieldAddrC lay83 rfl rfl (lk 8 rfl rfl) rfl (flL_c (show flen _ = 1 from rfl) (flL_c (show flen _ = 1 from rfl) (flL_c (show flen _ = 1 from rfl) (flL_c (show flen _ = 1 from rfl) flL_nil))))) ?_
              refine S.sil 83 rfl rfl (fun _ hF => .loadC sz3 ag3 (lk 0 rfl rfl) rfl rfl) ?_
              obtain ⟨r17, m17, h⟩ := h.bnd
              refine S.sil 84 rfl rfl (fun _ hF => .callQ ent117 cF (.c (lk 4 rfl rfl) (V.sub.refl _) (.c (lk 2 rfl rfl) (V.sub.refl _) (.c (lk 0 rfl rfl) (V.sub.refl _) .nil))) (C_field_Expire m17)) ?_
              refine S.sil 78 rfl rfl (fun _ hF => .move (lk 0 rfl rfl)) ?_
              refine S.sil 85 rfl rfl (fun _ hF => .extract (lk 0 rfl rfl) rfl) ?_
              refine S.sil 86 rfl rfl (fun _ hF => .extract (lk 1 rfl rfl) rfl) ?_
              refine S.effN rfl rfl (.nf (H2 := [.cells (E_A16_TField b2), .dead, .cells (E_TField r17.1)]) (.storeP sz42 (lk 12 rfl rfl) (lk 1 rfl rfl) rfl (.refl _) rfl .nil (by first | rfl | omega) .nil (ty_TField.fl r17.1) (ty_TField.fl v4) rfl) rfl rfl) trivial ?_
              refine S.nil ?_
              refine thenQ_n ?_
              refine AWp.prune (.eq (lk 11 rfl rfl) rfl (.eq (lk 12 rfl rfl) rfl (.eq (lk 13 rfl rfl) rfl (.eq (lk 14 rfl rfl) rfl (.eq (lk 15 rfl rfl) rfl .nil))))) ?_
              refine W.reg [0] rfl ?_
              refine S.sil 6 rfl rfl (fun _ hF => .assign cI) ?_
              refine S.nil ?_
              refine blockQ_n ?_
              refine thenQ_n ?_
              refine AWp.seq ?_
              refine AWp.seq ?_
              refine W.reg [0, 1] rfl ?_
              refine S.sil 130 rfl rfl (fun _ hF => .move (lk 0 rfl rfl)) ?_
              refine S.sil 131 rfl rfl (fun _ hF => .eql (lk 0 rfl rfl) cI) ?_
              refine S.nil ?_
              refine thenQ_n ?_
              refine AWp.condM (lk 0 rfl rfl) h (fun c11 h => ?_) (fun c11 h => ?_)
              · skip
                refine W.regF (fun H => H[2]? = some (.cells (E_TField r17.1))) rfl [0, 1, 2, 3, 4, 5, 6] mixed ?_
                refine S.sil 132 rfl rfl (fun _ hF => .move (lk 7 rfl rfl)) ?_
                refine S.sil 133 rfl rfl (fun _ hF => .fieldAddrC lay83 rfl rfl (lk 7 rfl rfl) rfl (flL_c (show flen _ = 1 from rfl) flL_nil)) ?_
                refine S.sil 134 rfl rfl (fun _ hF => .loadC sz3 ag3 (lk 0 rfl rfl) rfl rfl) ?_
                refine S.sil 135 rfl rfl (fun _ hF => .loadP sz42 ag42 (lk 7 rfl rfl) hF .nil (by first | rfl | omega) (ty_TField.fl r17.1) rfl) ?_
                refine S.sil 136 rfl rfl (fun _ hF => .nilCheck (lk 3 rfl rfl) rfl) ?_
                obtain ⟨k18, m18, h⟩ := h.bnd
                refine S.sil 137 rfl rfl (fun _ hF => .ixP arr81 (lk 0 rfl rfl) (lk 2 rfl rfl) m18) ?_
                obtain ⟨v19, ev19, h⟩ := h.nam
                refine S.effN rfl rfl (.storeP sz42 (lk 0 rfl rfl) (lk 2 rfl rfl) rfl (.refl _) rfl (.vc k18 .nil) (by first | rfl | omega) (.vc r17.1 k18 .nil) (ty_TField.fl r17.1) (ty_TField.fl (b2.get k18)) (congrArg (fun z => ([AObj.cells (E_A16_TField z), .dead, .cells (E_TField r17.1)] : List AObj)) ev19.symm)) rfl ?_
                refine S.nilD (by kernel_rfl) ?_
                refine thenQ_n ?_
                refine AWp.prune (.eq (lk 8 rfl rfl) rfl (.eq (lk 11 rfl rfl) rfl .nil)) ?_
                refine AWp.seq ?_
                refine W.reg [0, 1] rfl ?_
                refine S.sil 138 rfl rfl (fun _ hF => .move (lk 0 rfl rfl)) ?_
                refine S.sil 4 rfl rfl (fun _ hF => .assign (lk 0 rfl rfl)) ?_
                refine S.nil ?_
                refine thenQ_n ?_
                refine AWp.ret ?_
                obtain rfl := h.ret
                exact endF1 rfl (Wk.selS [0] (by decide) rfl (SelE.leaf (lk 0 rfl rfl) rfl (.refl _) (fun m => ((TyOk.int .i64).lt _ _)) .nil) (.cons (lt_cells (ty_A16_TField.lt _ _)) rfl (RSub.trans (.refl _) (.eq (ty_A16_TField.cl _ _).symm)) .nil)) (.tmp (lk 0 rfl rfl) rfl) rfl rfl
              · skip
                refine AWp.skip ?_
                refine thenQ_n ?_
                refine AWp.seq ?_
                refine W.reg [0, 1] rfl ?_
                refine S.sil 138 rfl rfl (fun _ hF => .move (lk 2 rfl rfl)) ?_
                refine S.sil 4 rfl rfl (fun _ hF => .assign (lk 0 rfl rfl)) ?_
                refine S.nil ?_
                refine thenQ_n ?_
                refine AWp.ret ?_
                obtain rfl := h.ret
                exact endF1 rfl (Wk.selS [0] (by decide) rfl (SelE.leaf (lk 0 rfl rfl) rfl (.refl _) (fun m => ((TyOk.int .i64).lt _ _)) .nil) (.cons (lt_cells (ty_A16_TField.lt _ _)) rfl (RSub.trans (.refl _) (.eq (ty_A16_TField.cl _ _).symm)) .nil)) (.tmp (lk 0 rfl rfl) rfl) rfl rfl
            · skip
              refine AWp.seq ?_
              refine W.reg [0, 1] rfl ?_
              refine S.sil 88 rfl rfl (fun _ hF => .eql (lk 1 rfl rfl) cI) ?_
              refine S.sil 87 rfl rfl (fun _ hF => .assign (lk 0 rfl rfl)) ?_
              refine S.nil ?_
              refine thenQ_n ?_
              refine AWp.condM (lk 0 rfl rfl) h (fun c12 h => ?_) (fun c12 h => ?_)
              · skip
                refine W.reg [0, 1, 2, 3, 4, 5, 6, 7, 8, 9, 10] rfl ?_
                refine S.qui 90 rfl rfl (fun _ => .loadP sz42 ag42 (lk 5 rfl rfl) rfl .nil (by first | rfl | omega) (ty_TField.fl v4) rfl) ?_
                refine S.sil 91 rfl rfl (fun _ hF => .fieldAddrC lay83 rfl rfl (lk 8 rfl rfl) rfl (flL_c (show flen _ = 1 from rfl) flL_nil)) ?_
                refine S.sil 92 rfl rfl (fun _ hF => .loadC sz3 ag3 (lk 0 rfl rfl) rfl rfl) ?_
                refine S.sil 93 rfl rfl (fun _ hF => .fieldAddrC lay83 rfl rfl (lk 10 rfl rfl) rfl (flL_c (show flen _ = 1 from rfl) (flL_c (show flen _ = 1 from rfl) (flL_c (show flen _ = 1 from rfl) flL_nil)))) ?_
                refine S.sil 94 rfl rfl (fun _ hF => .loadC sz3 ag3 (lk 0 rfl rfl) rfl rfl) ?_
                obtain ⟨r20, m20, h⟩ := h.bnd
                refine S.sil 95 rfl rfl (fun _ hF => .callQ ent28 cF (.c (lk 4 rfl rfl) (V.sub.refl _) (.c (lk 2 rfl rfl) (V.sub.refl _) (.c (lk 0 rfl rfl) (V.sub.refl _) .nil))) (C_field_Write m20)) ?_
                refine S.sil 89 rfl rfl (fun _ hF => .move (lk 0 rfl rfl)) ?_
                refine S.sil 96 rfl rfl (fun _ hF => .extract (lk 0 rfl rfl) rfl) ?_
                refine S.sil 97 rfl rfl (fun _ hF => .extract (lk 1 rfl rfl) rfl) ?_
                refine S.effN rfl rfl (.nf (H2 := [.cells (E_A16_TField b2), .dead, .cells (E_TField r20.1)]) (.storeP sz42 (lk 14 rfl rfl) (lk 1 rfl rfl) rfl (.refl _) rfl .nil (by first | rfl | omega) .nil (ty_TField.fl r20.1) (ty_TField.fl v4) rfl) rfl rfl) trivial ?_
                refine S.sil 6 rfl rfl (fun _ hF => .assign (lk 0 rfl rfl)) ?_
                refine S.nil ?_
                refine blockQ_n ?_
                refine thenQ_n ?_
                refine AWp.prune (.eq (lk 0 rfl rfl) rfl (.eq (lk 15 rfl rfl) rfl (.eq (lk 16 rfl rfl) rfl (.eq (lk 17 rfl rfl) rfl (.eq (lk 18 rfl rfl) rfl .nil))))) ?_
                refine AWp.seq ?_
                refine AWp.seq ?_
                refine W.reg [0, 1] rfl ?_
                refine S.sil 130 rfl rfl (fun _ hF => .move (lk 0 rfl rfl)) ?_
                refine S.sil 131 rfl rfl (fun _ hF => .eql (lk 0 rfl rfl) cI) ?_
                refine S.nil ?_
                refine thenQ_n ?_
                refine AWp.condM (lk 0 rfl rfl) h (fun c13 h => ?_) (fun c13 h => ?_)
                · skip
                  refine W.regF (fun H => H[2]? = some (.cells (E_TField r20.1))) rfl [0, 1, 2, 3, 4, 5, 6] mixed ?_
                  refine S.sil 132 rfl rfl (fun _ hF => .move (lk 6 rfl rfl)) ?_
                  refine S.sil 133 rfl rfl (fun _ hF => .fieldAddrC lay83 rfl rfl (lk 6 rfl rfl) rfl (flL_c (show flen _ = 1 from rfl) flL_nil)) ?_
                  refine S.sil 134 rfl rfl (fun _ hF => .loadC sz3 ag3 (lk 0 rfl rfl) rfl rfl) ?_
                  refine S.sil 135 rfl rfl (fun _ hF => .loadP sz42 ag42 (lk 6 rfl rfl) hF .nil (by first | rfl | omega) (ty_TField.fl r20.1) rfl) ?_
                  refine S.sil 136 rfl rfl (fun _ hF => .nilCheck (lk 3 rfl rfl) rfl) ?_
                  obtain ⟨k21, m21, h⟩ := h.bnd
                  refine S.sil 137 rfl rfl (fun _ hF => .ixP arr81 (lk 0 rfl rfl) (lk 2 rfl rfl) m21) ?_
                  obtain ⟨v22, ev22, h⟩ := h.nam
                  refine S.effN rfl rfl (.storeP sz42 (lk 0 rfl rfl) (lk 2 rfl rfl) rfl (.refl _) rfl (.vc k21 .nil) (by first | rfl | omega) (.vc r20.1 k21 .nil) (ty_TField.fl r20.1) (ty_TField.fl (b2.get k21)) (congrArg (fun z => ([AObj.cells (E_A16_TField z), .dead, .cells (E_TField r20.1)] : List AObj)) ev22.symm)) rfl ?_
                  refine S.nilD (by kernel_rfl) ?_
                  refine thenQ_n ?_
                  refine AWp.prune (.eq (lk 8 rfl rfl) rfl (.eq (lk 10 rfl rfl) rfl .nil)) ?_
                  refine AWp.seq ?_
                  refine W.reg [0, 1] rfl ?_
                  refine S.sil 138 rfl rfl (fun _ hF => .move (lk 0 rfl rfl)) ?_
                  refine S.sil 4 rfl rfl (fun _ hF => .assign (lk 0 rfl rfl)) ?_
                  refine S.nil ?_
                  refine thenQ_n ?_
                  refine AWp.ret ?_
                  obtain rfl := h.ret
                  exact endF1 rfl (Wk.selS [0] (by decide) rfl (SelE.leaf (lk 0 rfl rfl) rfl (.refl _) (fun m => ((TyOk.int .i64).lt _ _)) .nil) (.cons (lt_cells (ty_A16_TField.lt _ _)) rfl (RSub.trans (.refl _) (.eq (ty_A16_TField.cl _ _).symm)) .nil)) (.tmp (lk 0 rfl rfl) rfl) rfl rfl
                · skip
                  refine AWp.skip ?_
                  refine thenQ_n ?_
                  refine AWp.seq ?_
                  refine W.reg [0, 1] rfl ?_
                  refine S.sil 138 rfl rfl (fun _ hF => .move (lk 2 rfl rfl)) ?_
                  refine S.sil 4 rfl rfl (fun _ hF => .assign (lk 0 rfl rfl)) ?_
                  refine S.nil ?_
                  refine thenQ_n ?_
                  refine AWp.ret ?_
                  obtain rfl := h.ret
                  exact endF1 rfl (Wk.selS [0] (by decide) rfl (SelE.leaf (lk 0 rfl rfl) rfl (.refl _) (fun m => ((TyOk.int .i64).lt _ _)) .nil) (.cons (lt_cells (ty_A16_TField.lt _ _)) rfl (RSub.trans (.refl _) (.eq (ty_A16_TField.cl _ _).symm)) .nil)) (.tmp (lk 0 rfl rfl) rfl) rfl rfl
              · skip
                refine AWp.seq ?_
                refine W.reg [0, 1] rfl ?_
                refine S.sil 99 rfl rfl (fun _ hF => .eql (lk 3 rfl rfl) cI) ?_
                refine S.sil 98 rfl rfl (fun _ hF => .assign (lk 0 rfl rfl)) ?_
                refine S.nil ?_
                refine thenQ_n ?_
                refine AWp.condM (lk 0 rfl rfl) h (fun c14 h => ?_) (fun c14 h => ?_)
                · skip
                  refine W.reg [0, 1, 2, 3, 4, 5, 6, 7, 8, 9, 10] rfl ?_
                  refine S.qui 101 rfl rfl (fun _ => .loadP sz42 ag42 (lk 7 rfl rfl) rfl .nil (by first | rfl | omega) (ty_TField.fl v4) rfl) ?_
                  refine S.sil 102 rfl rfl (fun _ hF => .fieldAddrC lay83 rfl rfl (lk 10 rfl rfl) rfl (flL_c (show flen _ = 1 from rfl) flL_nil)) ?_
                  refine S.sil 103 rfl rfl (fun _ hF => .loadC sz3 ag3 (lk 0 rfl rfl) rfl rfl) ?_
                  refine S.sil 104 rfl rfl (fun _ hF => .fieldAddrC lay83 rfl rfl (lk 12 rfl rfl) rfl (flL_c (show flen _ = 1 from rfl) (flL_c (show flen _ = 1 from rfl) flL_nil))) ?_
                  refine S.sil 105 rfl rfl (fun _ hF => .loadC sz3 ag3 (lk 0 rfl rfl) rfl rfl) ?_
                  obtain ⟨r23, m23, h⟩ := h.bnd
                  refine S.sil 106 rfl rfl (fun _ hF => .callQ ent30 cF (.c (lk 4 rfl rfl) (V.sub.refl _) (.c (lk 2 rfl rfl) (V.sub.refl _) (.c (lk 0 rfl rfl) (V.sub.refl _) .nil))) (C_field_Pass m23)) ?_
                  refine S.sil 100 rfl rfl (fun _ hF => .move (lk 0 rfl rfl)) ?_
                  refine S.sil 107 rfl rfl (fun _ hF => .extract (lk 0 rfl rfl) rfl) ?_
                  refine S.sil 108 rfl rfl (fun _ hF => .extract (lk 1 rfl rfl) rfl) ?_
                  refine S.effN rfl rfl (.nf (H2 := [.cells (E_A16_TField b2), .dead, .cells (E_TField r23.1)]) (.storeP sz42 (lk 16 rfl rfl) (lk 1 rfl rfl) rfl (.refl _) rfl .nil (by first | rfl | omega) .nil (ty_TField.fl r23.1) (ty_TField.fl v4) rfl) rfl rfl) trivial ?_
                  refine S.sil 6 rfl rfl (fun _ hF => .assign (lk 0 rfl rfl)) ?_
                  refine S.nil ?_
                  refine blockQ_n ?_
                  refine thenQ_n ?_
                  refine AWp.prune (.eq (lk 0 rfl rfl) rfl (.eq (lk 17 rfl rfl) rfl (.eq (lk 18 rfl rfl) rfl (.eq (lk 19 rfl rfl) rfl (.eq (lk 20 rfl rfl) rfl .nil))))) ?_
                  refine AWp.seq ?_
                  refine AWp.seq ?_
                  refine W.reg [0, 1] rfl ?_
                  refine S.sil 130 rfl rfl (fun _ hF => .move (lk 0 rfl rfl)) ?_
                  refine S.sil 131 rfl rfl (fun _ hF => .eql (lk 0 rfl rfl) cI) ?_
                  refine S.nil ?_
                  refine thenQ_n ?_
                  refine AWp.condM (lk 0 rfl rfl) h (fun c15 h => ?_) (fun c15 h => ?_)
                  · skip
                    refine W.regF (fun H => H[2]? = some (.cells (E_TField r23.1))) rfl [0, 1, 2, 3, 4, 5, 6] mixed ?_
                    refine S.sil 132 rfl rfl (fun _ hF => .move (lk 6 rfl rfl)) ?_
                    refine S.sil 133 rfl rfl (fun _ hF => .fieldAddrC lay83 rfl rfl (lk 6 rfl rfl) rfl (flL_c (show flen _ = 1 from rfl) flL_nil)) ?_
                    refine S.sil 134 rfl rfl (fun _ hF => .loadC sz3 ag3 (lk 0 rfl rfl) rfl rfl) ?_
                    refine S.sil 135 rfl rfl (fun _ hF => .loadP sz42 ag42 (lk 6 rfl rfl) hF .nil (by first | rfl | omega) (ty_TField.fl r23.1) rfl) ?_
                    refine S.sil 136 rfl rfl (fun _ hF => .nilCheck (lk 3 rfl rfl) rfl) ?_
                    obtain ⟨k24, m24, h⟩ := h.bnd
                    refine S.sil 137 rfl rfl (fun _ hF => .ixP arr81 (lk 0 rfl rfl) (lk 2 rfl rfl) m24) ?_
                    obtain ⟨v25, ev25, h⟩ := h.nam
                    refine S.effN rfl rfl (.storeP sz42 (lk 0 rfl rfl) (lk 2 rfl rfl) rfl (.refl _) rfl (.vc k24 .nil) (by first | rfl | omega) (.vc r23.1 k24 .nil) (ty_TField.fl r23.1) (ty_TField.fl (b2.get k24)) (congrArg (fun z => ([AObj.cells (E_A16_TField z), .dead, .cells (E_TField r23.1)] : List AObj)) ev25.symm)) rfl ?_
                    refine S.nilD (by kernel_rfl) ?_
                    refine thenQ_n ?_
                    refine AWp.prune (.eq (lk 8 rfl rfl) rfl (.eq (lk 10 rfl rfl) rfl .nil)) ?_
                    refine AWp.seq ?_
                    refine W.reg [0, 1] rfl ?_
                    refine S.sil 138 rfl rfl (fun _ hF => .move (lk 0 rfl rfl)) ?_
                    refine S.sil 4 rfl rfl (fun _ hF => .assign (lk 0 rfl rfl)) ?_
                    refine S.nil ?_
                    refine thenQ_n ?_
                    refine AWp.ret ?_
                    obtain rfl := h.ret
                    exact endF1 rfl (Wk.selS [0] (by decide) rfl (SelE.leaf (lk 0 rfl rfl) rfl (.refl _) (fun m => ((TyOk.int .i64).lt _ _)) .nil) (.cons (lt_cells (ty_A16_TField.lt _ _)) rfl (RSub.trans (.refl _) (.eq (ty_A16_TField.cl _ _).symm)) .nil)) (.tmp (lk 0 rfl rfl) rfl) rfl rfl
                  · skip
                    refine AWp.skip ?_
                    refine thenQ_n ?_
                    refine AWp.seq ?_
                    refine W.reg [0, 1] rfl ?_
                    refine S.sil 138 rfl rfl (fun _ hF => .move (lk 2 rfl rfl)) ?_
                    refine S.sil 4 rfl rfl (fun _ hF => .assign (lk 0 rfl rfl)) ?_
                    refine S.nil ?_
                    refine thenQ_n ?_
                    refine AWp.ret ?_
                    obtain rfl := h.ret
                    exact endF1 rfl (Wk.selS [0] (by decide) rfl (SelE.leaf (lk 0 rfl rfl) rfl (.refl _) (fun m => ((TyOk.int .i64).lt _ _)) .nil) (.cons (lt_cells (ty_A16_TField.lt _ _)) rfl (RSub.trans (.refl _) (.eq (ty_A16_TField.cl _ _).symm)) .nil)) (.tmp (lk 0 rfl rfl) rfl) rfl rfl
                · skip
                  refine AWp.seq ?_
                  refine W.reg [0, 1] rfl ?_
                  refine S.sil 110 rfl rfl (fun _ hF => .eql (lk 5 rfl rfl) cI) ?_
                  refine S.sil 109 rfl rfl (fun _ hF => .assign (lk 0 rfl rfl)) ?_
                  refine S.nil ?_
                  refine thenQ_n ?_
                  refine AWp.condM (lk 0 rfl rfl) h (fun c16 h => ?_) (fun c16 h => ?_)
                  · skip
                    refine AWp.seq ?_
                    refine W.reg [0, 1, 2, 3, 4, 5, 6, 7] rfl ?_
                    refine S.sil 111 rfl rfl (fun _ hF => .fieldAddrC lay83 rfl rfl (lk 11 rfl rfl) rfl (flL_c (show flen _ = 1 from rfl) (flL_c (show flen _ = 1 from rfl) flL_nil))) ?_
                    refine S.sil 112 rfl rfl (fun _ hF => .loadC sz3 ag3 (lk 0 rfl rfl) rfl rfl) ?_
                    refine S.sil 113 rfl rfl (fun _ hF => .geq (lk 0 rfl rfl) cI) ?_
                    refine S.sil 114 rfl rfl (fun _ hF => .move (lk 0 rfl rfl)) ?_
                    refine S.gsil 115 3 114 true rfl rfl rfl (lk 0 rfl rfl) (fun hB _ hF => .fieldAddrC lay83 rfl rfl (lk 15 rfl rfl) rfl (flL_c (show flen _ = 1 from rfl) (flL_c (show flen _ = 1 from rfl) flL_nil))) ?_
                    refine S.gsil 116 3 114 true rfl rfl rfl (lk 1 rfl rfl) (fun hB _ hF => .loadC sz3 ag3 (ifT hB (lk 0 rfl rfl)) rfl rfl) ?_
                    refine S.gsil 117 3 114 true rfl rfl rfl (lk 2 rfl rfl) (fun hB _ hF => .leq (ifT hB (lk 0 rfl rfl)) cI) ?_
                    refine S.sil 118 rfl rfl (fun _ hF => .pickAnd (lk 3 rfl rfl) (fun h => ifT h (lk 0 rfl rfl)) cB) ?_
                    refine S.nil ?_
                    refine thenQ_n ?_
                    refine AWp.prune (.eq (lk 0 rfl rfl) rfl (.eq (lk 16 rfl rfl) rfl (.eq (lk 17 rfl rfl) rfl (.eq (lk 18 rfl rfl) rfl (.eq (lk 19 rfl rfl) rfl (.eq (lk 20 rfl rfl) rfl .nil)))))) ?_
                    refine AWp.condM (lk 0 rfl rfl) h (fun c17 h => ?_) (fun c17 h => ?_)
                    · skip
                      refine W.regF (fun H => H[0]? = some (.cells (E_A16_TField b2))) rfl [0, 1, 2, 3, 4, 5, 6, 7, 8, 9, 10, 11, 12] mixed ?_
                      refine S.qui 120 rfl rfl (fun _ => .loadP sz42 ag42 (lk 2 rfl rfl) rfl .nil (by first | rfl | omega) (ty_TField.fl v4) rfl) ?_
                      refine S.sil 121 rfl rfl (fun _ hF => .move (lk 6 rfl rfl)) ?_
                      refine S.sil 122 rfl rfl (fun _ hF => .fieldAddrC lay83 rfl rfl (lk 6 rfl rfl) rfl (flL_c (show flen _ = 1 from rfl) (flL_c (show flen _ = 1 from rfl) flL_nil))) ?_
                      refine S.sil 123 rfl rfl (fun _ hF => .loadC sz3 ag3 (lk 0 rfl rfl) rfl rfl) ?_
                      refine S.sil 124 rfl rfl (fun _ hF => .nilCheck (lk 2 rfl rfl) rfl) ?_
                      obtain ⟨k26, m26, h⟩ := h.bnd
                      refine S.sil 125 rfl rfl (fun _ hF => .ixP arr81 (lk 0 rfl rfl) (lk 1 rfl rfl) m26) ?_
                      obtain ⟨v27, ev27, h⟩ := h.nam
                      refine S.sil 126 rfl rfl (fun _ hF => .nv (.loadP sz42 ag42 (lk 0 rfl rfl) hF (.vc k26 .nil) (by first | rfl | omega) (ty_TField.fl (b2.get k26)) rfl) (congrArg E_TField ev27.symm)) ?_
                      obtain ⟨r28, m28, h⟩ := h.bnd
                      refine S.sil 127 rfl rfl (fun _ hF => .callQ ent14 cF (.c (lk 6 rfl rfl) (V.sub.refl _) (.c (lk 0 rfl rfl) (V.sub.refl _) .nil)) (C_field_Join m28)) ?_
                      refine S.sil 119 rfl rfl (fun _ hF => .move (lk 0 rfl rfl)) ?_
                      refine S.sil 128 rfl rfl (fun _ hF => .extract (lk 0 rfl rfl) rfl) ?_
                      refine S.sil 129 rfl rfl (fun _ hF => .extract (lk 1 rfl rfl) rfl) ?_
                      refine S.effN rfl rfl (.storeP sz42 (lk 13 rfl rfl) (lk 1 rfl rfl) rfl (.refl _) rfl .nil (by first | rfl | omega) .nil (ty_TField.fl r28.1) (ty_TField.fl v4) rfl) rfl ?_
                      refine S.sil 6 rfl rfl (fun _ hF => .assign (lk 0 rfl rfl)) ?_
                      refine S.nilD (by kernel_rfl) ?_
                      refine blockQ_n ?_
                      refine thenQ_n ?_
                      refine AWp.prune (.eq (lk 0 rfl rfl) rfl (.eq (lk 14 rfl rfl) rfl (.eq (lk 15 rfl rfl) rfl (.eq (lk 16 rfl rfl) rfl (.eq (lk 17 rfl rfl) rfl .nil))))) ?_
                      refine AWp.seq ?_
                      refine AWp.seq ?_
                      refine W.reg [0, 1] rfl ?_
                      refine S.sil 130 rfl rfl (fun _ hF => .move (lk 0 rfl rfl)) ?_
                      refine S.sil 131 rfl rfl (fun _ hF => .eql (lk 0 rfl rfl) cI) ?_
                      refine S.nil ?_
                      refine thenQ_n ?_
                      refine AWp.condM (lk 0 rfl rfl) h (fun c18 h => ?_) (fun c18 h => ?_)
                      · skip
                        refine W.regF (fun H => H[2]? = some (.cells (E_TField r28.1))) rfl [0, 1, 2, 3, 4, 5, 6] mixed ?_
                        refine S.sil 132 rfl rfl (fun _ hF => .move (lk 6 rfl rfl)) ?_
                        refine S.sil 133 rfl rfl (fun _ hF => .fieldAddrC lay83 rfl rfl (lk 6 rfl rfl) rfl (flL_c (show flen _ = 1 from rfl) flL_nil)) ?_
                        refine S.sil 134 rfl rfl (fun _ hF => .loadC sz3 ag3 (lk 0 rfl rfl) rfl rfl) ?_
                        refine S.sil 135 rfl rfl (fun _ hF => .loadP sz42 ag42 (lk 6 rfl rfl) hF .nil (by first | rfl | omega) (ty_TField.fl r28.1) rfl) ?_
                        refine S.sil 136 rfl rfl (fun _ hF => .nilCheck (lk 3 rfl rfl) rfl) ?_
                        obtain ⟨k29, m29, h⟩ := h.bnd
                        refine S.sil 137 rfl rfl (fun _ hF => .ixP arr81 (lk 0 rfl rfl) (lk 2 rfl rfl) m29) ?_
                        obtain ⟨v30, ev30, h⟩ := h.nam
                        refine S.effN rfl rfl (.storeP sz42 (lk 0 rfl rfl) (lk 2 rfl rfl) rfl (.refl _) rfl (.vc k29 .nil) (by first | rfl | omega) (.vc r28.1 k29 .nil) (ty_TField.fl r28.1) (ty_TField.fl (b2.get k29)) (congrArg (fun z => ([AObj.cells (E_A16_TField z), .dead, .cells (E_TField r28.1)] : List AObj)) ev30.symm)) rfl ?_
                        refine S.nilD (by kernel_rfl) ?_
                        refine thenQ_n ?_
                        refine AWp.prune (.eq (lk 8 rfl rfl) rfl (.eq (lk 10 rfl rfl) rfl .nil)) ?_
                        refine AWp.seq ?_
                        refine W.reg [0, 1] rfl ?_
                        refine S.sil 138 rfl rfl (fun _ hF => .move (lk 0 rfl rfl)) ?_
                        refine S.sil 4 rfl rfl (fun _ hF => .assign (lk 0 rfl rfl)) ?_
                        refine S.nil ?_
                        refine thenQ_n ?_
                        refine AWp.ret ?_
                        obtain rfl := h.ret
                        exact endF1 rfl (Wk.selS [0] (by decide) rfl (SelE.leaf (lk 0 rfl rfl) rfl (.refl _) (fun m => ((TyOk.int .i64).lt _ _)) .nil) (.cons (lt_cells (ty_A16_TField.lt _ _)) rfl (RSub.trans (.refl _) (.eq (ty_A16_TField.cl _ _).symm)) .nil)) (.tmp (lk 0 rfl rfl) rfl) rfl rfl
                      · skip
                        refine AWp.skip ?_
                        refine thenQ_n ?_
                        refine AWp.seq ?_
                        refine W.reg [0, 1] rfl ?_
                        refine S.sil 138 rfl rfl (fun _ hF => .move (lk 2 rfl rfl)) ?_
                        refine S.sil 4 rfl rfl (fun _ hF => .assign (lk 0 rfl rfl)) ?_
                        refine S.nil ?_
                        refine thenQ_n ?_
                        refine AWp.ret ?_
                        obtain rfl := h.ret
                        exact endF1 rfl (Wk.selS [0] (by decide) rfl (SelE.leaf (lk 0 rfl rfl) rfl (.refl _) (fun m => ((TyOk.int .i64).lt _ _)) .nil) (.cons (lt_cells (ty_A16_TField.lt _ _)) rfl (RSub.trans (.refl _) (.eq (ty_A16_TField.cl _ _).symm)) .nil)) (.tmp (lk 0 rfl rfl) rfl) rfl rfl
                    · skip
                      refine AWp.skip ?_
                      refine blockQ_n ?_
                      refine thenQ_n ?_
                      refine AWp.seq ?_
                      refine AWp.seq ?_
                      refine W.reg [0, 1] rfl ?_
                      refine S.sil 130 rfl rfl (fun _ hF => .move (lk 1 rfl rfl)) ?_
                      refine S.sil 131 rfl rfl (fun _ hF => .eql (lk 0 rfl rfl) cI) ?_
                      refine S.nil ?_
                      refine thenQ_n ?_
                      refine AWp.condM (lk 0 rfl rfl) h (fun c19 h => ?_) (fun c19 h => ?_)
                      · skip
                        refine W.regF (fun H => H[2]? = some (.cells (E_TField v4))) rfl [0, 1, 2, 3, 4, 5, 6] mixed ?_
                        refine S.sil 132 rfl rfl (fun _ hF => .move (lk 7 rfl rfl)) ?_
                        refine S.sil 133 rfl rfl (fun _ hF => .fieldAddrC lay83 rfl rfl (lk 7 rfl rfl) rfl (flL_c (show flen _ = 1 from rfl) flL_nil)) ?_
                        refine S.sil 134 rfl rfl (fun _ hF => .loadC sz3 ag3 (lk 0 rfl rfl) rfl rfl) ?_
                        refine S.sil 135 rfl rfl (fun _ hF => .loadP sz42 ag42 (lk 7 rfl rfl) hF .nil (by first | rfl | omega) (ty_TField.fl v4) rfl) ?_
                        refine S.sil 136 rfl rfl (fun _ hF => .nilCheck (lk 3 rfl rfl) rfl) ?_
                        obtain ⟨k31, m31, h⟩ := h.bnd
                        refine S.sil 137 rfl rfl (fun _ hF => .ixP arr81 (lk 0 rfl rfl) (lk 2 rfl rfl) m31) ?_
                        obtain ⟨v32, ev32, h⟩ := h.nam
                        refine S.effN rfl rfl (.storeP sz42 (lk 0 rfl rfl) (lk 2 rfl rfl) rfl (.refl _) rfl (.vc k31 .nil) (by first | rfl | omega) (.vc v4 k31 .nil) (ty_TField.fl v4) (ty_TField.fl (b2.get k31)) (congrArg (fun z => ([AObj.cells (E_A16_TField z), .dead, .cells (E_TField v4)] : List AObj)) ev32.symm)) rfl ?_
                        refine S.nilD (by kernel_rfl) ?_
                        refine thenQ_n ?_
                        refine AWp.prune (.eq (lk 9 rfl rfl) rfl (.eq (lk 11 rfl rfl) rfl .nil)) ?_
                        refine AWp.seq ?_
                        refine W.reg [0, 1] rfl ?_
                        refine S.sil 138 rfl rfl (fun _ hF => .move (lk 0 rfl rfl)) ?_
                        refine S.sil 4 rfl rfl (fun _ hF => .assign (lk 0 rfl rfl)) ?_
                        refine S.nil ?_
                        refine thenQ_n ?_
                        refine AWp.ret ?_
                        obtain rfl := h.ret
                        exact endF1 rfl (Wk.selS [0] (by decide) rfl (SelE.leaf (lk 0 rfl rfl) rfl (.refl _) (fun m => ((TyOk.int .i64).lt _ _)) .nil) (.cons (lt_cells (ty_A16_TField.lt _ _)) rfl (RSub.trans (.refl _) (.eq (ty_A16_TField.cl _ _).symm)) .nil)) (.tmp (lk 0 rfl rfl) rfl) rfl rfl
                      · skip
                        refine AWp.skip ?_
                        refine thenQ_n ?_
                        refine AWp.seq ?_
                        refine W.reg [0, 1] rfl ?_
                        refine S.sil 138 rfl rfl (fun _ hF => .move (lk 3 rfl rfl)) ?_
                        refine S.sil 4 rfl rfl (fun _ hF => .assign (lk 0 rfl rfl)) ?_
                        refine S.nil ?_
                        refine thenQ_n ?_
                        refine AWp.ret ?_
                        obtain rfl := h.ret
                        exact endF1 rfl (Wk.selS [0] (by decide) rfl (SelE.leaf (lk 0 rfl rfl) rfl (.refl _) (fun m => ((TyOk.int .i64).lt _ _)) .nil) (.cons (lt_cells (ty_A16_TField.lt _ _)) rfl (RSub.trans (.refl _) (.eq (ty_A16_TField.cl _ _).symm)) .nil)) (.tmp (lk 0 rfl rfl) rfl) rfl rfl
                  · skip
                    refine AWp.skip ?_
                    refine blockQ_n ?_
                    refine thenQ_n ?_
                    refine AWp.seq ?_
                    refine AWp.seq ?_
                    refine W.reg [0, 1] rfl ?_
                    refine S.sil 130 rfl rfl (fun _ hF => .move (lk 8 rfl rfl)) ?_
                    refine S.sil 131 rfl rfl (fun _ hF => .eql (lk 0 rfl rfl) cI) ?_
                    refine S.nil ?_
                    refine thenQ_n ?_
                    refine AWp.condM (lk 0 rfl rfl) h (fun c20 h => ?_) (fun c20 h => ?_)
                    · skip
                      refine W.regF (fun H => H[2]? = some (.cells (E_TField v4))) rfl [0, 1, 2, 3, 4, 5, 6] mixed ?_
                      refine S.sil 132 rfl rfl (fun _ hF => .move (lk 14 rfl rfl)) ?_
                      refine S.sil 133 rfl rfl (fun _ hF => .fieldAddrC lay83 rfl rfl (lk 14 rfl rfl) rfl (flL_c (show flen _ = 1 from rfl) flL_nil)) ?_
                      refine S.sil 134 rfl rfl (fun _ hF => .loadC sz3 ag3 (lk 0 rfl rfl) rfl rfl) ?_
                      refine S.sil 135 rfl rfl (fun _ hF => .loadP sz42 ag42 (lk 14 rfl rfl) hF .nil (by first | rfl | omega) (ty_TField.fl v4) rfl) ?_
                      refine S.sil 136 rfl rfl (fun _ hF => .nilCheck (lk 3 rfl rfl) rfl) ?_
                      obtain ⟨k33, m33, h⟩ := h.bnd
                      refine S.sil 137 rfl rfl (fun _ hF => .ixP arr81 (lk 0 rfl rfl) (lk 2 rfl rfl) m33) ?_
                      obtain ⟨v34, ev34, h⟩ := h.nam
                      refine S.effN rfl rfl (.storeP sz42 (lk 0 rfl rfl) (lk 2 rfl rfl) rfl (.refl _) rfl (.vc k33 .nil) (by first | rfl | omega) (.vc v4 k33 .nil) (ty_TField.fl v4) (ty_TField.fl (b2.get k33)) (congrArg (fun z => ([AObj.cells (E_A16_TField z), .dead, .cells (E_TField v4)] : List AObj)) ev34.symm)) rfl ?_
                      refine S.nilD (by kernel_rfl) ?_
                      refine thenQ_n ?_
                      refine AWp.prune (.eq (lk 16 rfl rfl) rfl (.eq (lk 18 rfl rfl) rfl .nil)) ?_
                      refine AWp.seq ?_
                      refine W.reg [0, 1] rfl ?_
                      refine S.sil 138 rfl rfl (fun _ hF => .move (lk 0 rfl rfl)) ?_
                      refine S.sil 4 rfl rfl (fun _ hF => .assign (lk 0 rfl rfl)) ?_
                      refine S.nil ?_
                      refine thenQ_n ?_
                      refine AWp.ret ?_
                      obtain rfl := h.ret
                      exact endF1 rfl (Wk.selS [0] (by decide) rfl (SelE.leaf (lk 0 rfl rfl) rfl (.refl _) (fun m => ((TyOk.int .i64).lt _ _)) .nil) (.cons (lt_cells (ty_A16_TField.lt _ _)) rfl (RSub.trans (.refl _) (.eq (ty_A16_TField.cl _ _).symm)) .nil)) (.tmp (lk 0 rfl rfl) rfl) rfl rfl
                    · skip
                      refine AWp.skip ?_
                      refine thenQ_n ?_
                      refine AWp.prune (.eq (lk 10 rfl rfl) rfl (.eq (lk 12 rfl rfl) rfl .nil)) ?_
                      refine AWp.seq ?_
                      refine W.reg [0, 1] rfl ?_
                      refine S.sil 138 rfl rfl (fun _ hF => .move (lk 0 rfl rfl)) ?_
                      refine S.sil 4 rfl rfl (fun _ hF => .assign (lk 0 rfl rfl)) ?_
                      refine S.nil ?_
                      refine thenQ_n ?_
                      refine AWp.ret ?_
                      obtain rfl := h.ret
                      exact endF1 rfl (Wk.selS [0] (by decide) rfl (SelE.leaf (lk 0 rfl rfl) rfl (.refl _) (fun m => ((TyOk.int .i64).lt _ _)) .nil) (.cons (lt_cells (ty_A16_TField.lt _ _)) rfl (RSub.trans (.refl _) (.eq (ty_A16_TField.cl _ _).symm)) .nil)) (.tmp (lk 0 rfl rfl) rfl) rfl rfl
end Go.Av
