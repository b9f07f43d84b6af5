/- Each function tells what its mirror tells. -/
import Derived.Test.YtakadpmjdhcckaaAvFieldKindsG2
import Derived.Test.YtakadpmjdhcckaaProg
import Derived.KernelRfl
namespace Go.Av
set_option linter.unusedSectionVars false
open Go.Proofs
set_option linter.unusedVariables false
set_option linter.unusedSimpArgs false
set_option maxHeartbeats 4000000
set_option maxRecDepth 10000
theorem C_counter_Value {a1 : TCounter} {r : Int × Int} (h : counter_Value a1 = some r) : PureC Pg 111 [E_TCounter a1] (.tup [(V.int .i64) r.1, (V.int .i64) r.2]) := by
  refine PureC.ofF (CallSpec.of_bodyF 30 0 fn111 rfl rfl rfl (Nat.le_of_ble_eq_true rfl) ?_) (ltL_c (ty_TCounter.lt _ _) ltL_nil) (lt_tup (ltL_c ((TyOk.int .i64).lt _ _) (ltL_c ((TyOk.int .i64).lt _ _) ltL_nil)))
  replace h := Ok.of h
  unfold counter_Value at h
  refine AWp.seq ?_
  refine W.reg [0, 1, 2] rfl ?_
  refine S.eff 1 rfl rfl (.nf (v2 := .ptr 0 [] 0) (H2 := [.cells (E_TCounter a1)]) (.box (lk 0 rfl rfl) rfl) rfl rfl) trivial ?_
  refine S.sil 2 rfl rfl (fun _ hF => .assign cI) ?_
  refine S.sil 3 rfl rfl (fun _ hF => .assign cI) ?_
  refine S.nil ?_
  refine thenQ_n ?_
  refine AWp.wk (Wk.freeze 0 rfl rfl (.same (lk 0 rfl rfl) (.same (lk 1 rfl rfl) (.cons (lk 2 rfl rfl) rfl (.ptr .nil (by first | rfl | omega)) .nil))) (.refl _)) ?_
  refine AWp.seq ?_
  refine W.regD [0, 1, 2, 3, 4, 5, 6, 7] mixed ?_
  refine S.sil 7 rfl rfl (fun _ hF => .fieldAddrC lay28 rfl rfl (lk 2 rfl rfl) rfl flL_nil) ?_
  refine S.sil 8 rfl rfl (fun _ hF => .loadC sz3 ag3 (lk 0 rfl rfl) rfl rfl) ?_
  refine S.sil 9 rfl rfl (fun _ hF => .buildSliceW sli116 zv3 rfl rfl (by decide) (.cons (lk 0 rfl rfl) rfl (.refl _) rfl .nil)) ?_
  refine S.sil 10 rfl rfl (fun _ hF => .fieldAddrC lay28 rfl rfl (lk 5 rfl rfl) rfl (flL_c (show flen _ = 1 from rfl) (flL_c (show flen _ = 1 from rfl) (flL_c (show flen _ = 1 from rfl) (flL_c (ty_TRights.fl a1.Down) flL_nil))))) ?_
  refine S.sil 11 rfl rfl (fun _ hF => .fieldAddrC lay26 rfl rfl (lk 0 rfl rfl) rfl (flL_c (ty_A16_i64.fl a1.Up.Given) flL_nil)) ?_
  refine S.sil 12 rfl rfl (fun _ hF => .sliceArr arr23 (lk 0 rfl rfl) (by simp)) ?_
  obtain ⟨l2, m2, h⟩ := h.bnd
  refine S.new 13 rfl rfl (.appX sli116 und116 zv3 rfl (by decide) (lk 3 rfl rfl) (V.sub.refl _) (lk 0 rfl rfl) Rd.sl m2 rfl) trivial ?_
  refine S.sil 4 rfl rfl (fun _ hF => .assign (lk 0 rfl rfl)) ?_
  refine S.nilD (by kernel_rfl) ?_
  refine thenQ_n ?_
  refine AWp.seq ?_
  refine AWp.seq ?_
  refine W.reg [0, 1, 2, 3] rfl ?_
  refine S.sil 14 rfl rfl (fun _ hF => .fieldAddrC lay28 rfl rfl (lk 10 rfl rfl) rfl (flL_c (show flen _ = 1 from rfl) (flL_c (show flen _ = 1 from rfl) (flL_c (show flen _ = 1 from rfl) flL_nil)))) ?_
  refine S.sil 15 rfl rfl (fun _ hF => .fieldAddrC lay26 rfl rfl (lk 0 rfl rfl) rfl (flL_c (ty_A16_i64.fl a1.Down.Given) flL_nil)) ?_
  refine S.sil 16 rfl rfl (fun _ hF => .loadC sz23 ag23 (lk 0 rfl rfl) (ty_A16_i64.fl a1.Down.Used) rfl) ?_
  refine S.sil 17 rfl rfl (fun _ hF => .move cI) ?_
  refine S.nil ?_
  refine thenQ_n ?_
  refine AWp.prune (.eq (lk 0 rfl rfl) rfl (.eq (lk 1 rfl rfl) rfl (.eq (lk 4 rfl rfl) rfl (.eq (lk 12 rfl rfl) rfl (.eq (lk 13 rfl rfl) rfl .nil))))) ?_
  refine AWp.cutX (fun x5 => ⟨[(4, .sl 1 (.tok 0) (List.map (V.int .i64) x5)), (3, (V.int .i64) 0), (2, (V.int .i64) 0)], [.tail]⟩) nc_then h (fun q3 hq3 => ?_) (fun x5 h => ?_)
  · refine AWp.block ?_
    refine AWp.loopT (fun s4 => ⟨[(17, (V.int .i64) s4.1), (16, E_A16_i64 a1.Down.Used), (4, .sl 1 (.tok 0) (List.map (V.int .i64) s4.2)), (3, (V.int .i64) 0), (2, (V.int .i64) 0)], [.tail]⟩) hq3 (Wk.selS [1] (by decide) rfl (SelE.leaf (lk 0 rfl rfl) rfl (.refl _) (fun m => ((TyOk.int .i64).lt _ _)) (SelE.leaf (lk 1 rfl rfl) rfl (.refl _) (fun m => (ty_A16_i64.lt _ _)) (SelE.spec (lk 2 rfl rfl) rfl (.refl _) (ren_sl (TyOk.int .i64) _) (lt_sl rfl ((TyOk.int .i64).ltm _ _)) (SelE.leaf (lk 3 rfl rfl) rfl (.refl _) (fun m => ((TyOk.int .i64).lt _ _)) (SelE.leaf (lk 4 rfl rfl) rfl (.refl _) (fun m => ((TyOk.int .i64).lt _ _)) .nil))))) (.cons rfl rfl trivial .nil)) (fun _ s4 h3 => ?_)
    rw [counter_Value_L1] at h3
    refine AWp.seq ?_
    refine W.reg [0] rfl ?_
    refine S.sil 18 rfl rfl (fun _ hF => .lss (lk 0 rfl rfl) cI) ?_
    refine S.nil ?_
    refine thenQ_n ?_
    refine AWp.seq ?_
    refine AWp.condM (lk 0 rfl rfl) h3 (fun c1 h3 => ?_) (fun c1 h3 => ?_)
    · skip
      refine AWp.skip ?_
      refine thenQ_n ?_
      refine AWp.seq ?_
      refine AWp.block ?_
      refine AWp.seq ?_
      refine W.reg [0, 1] rfl ?_
      obtain ⟨k6, m6, h3⟩ := h3.bnd
      refine S.sil 19 rfl rfl (fun _ hF => .ixV arr23 (lk 2 rfl rfl) (lk 1 rfl rfl) m6 rfl) ?_
      refine S.sil 6 rfl rfl (fun _ hF => .assign (lk 0 rfl rfl)) ?_
      refine S.nil ?_
      refine thenQ_n ?_
      refine W.reg [0, 1, 2, 3, 4, 5] rfl ?_
      refine S.sil 20 rfl rfl (fun _ hF => .move (lk 5 rfl rfl)) ?_
      refine S.sil 21 rfl rfl (fun _ hF => .move (lk 1 rfl rfl)) ?_
      refine S.sil 22 rfl rfl (fun _ hF => .neg (lk 0 rfl rfl)) ?_
      refine S.sil 23 rfl rfl (fun _ hF => .buildSliceW sli116 zv3 rfl rfl (by decide) (.cons (lk 0 rfl rfl) rfl (.refl _) rfl .nil)) ?_
      obtain ⟨l7, m7, h3⟩ := h3.bnd
      refine S.eff 24 rfl rfl (.nf (v2 := .sl 1 (.tok 1) (List.map (V.int .i64) l7)) (H2 := [.dead, .tail]) (.appT sli116 und116 zv3 rfl (by decide) (lk 3 rfl rfl) rfl (lk 0 rfl rfl) Rd.sl m7 rfl) rfl rfl) trivial ?_
      refine S.sil 4 rfl rfl (fun _ hF => .assign (lk 0 rfl rfl)) ?_
      refine S.nil ?_
      refine blockQ_n ?_
      refine thenQ_n ?_
      refine W.reg [0, 1] rfl ?_
      refine S.sil 25 rfl rfl (fun _ hF => .add (lk 9 rfl rfl) cI) ?_
      refine S.sil 17 rfl rfl (fun _ hF => .move (lk 0 rfl rfl)) ?_
      refine S.nil ?_
      refine thenQ_n ?_
      exact ⟨_, h3.ret, (Wk.selS [1] (by decide) rfl (SelE.leaf (lk 0 rfl rfl) rfl (.refl _) (fun m => ((TyOk.int .i64).lt _ _)) (SelE.leaf (lk 12 rfl rfl) rfl (.refl _) (fun m => (ty_A16_i64.lt _ _)) (SelE.spec (lk 2 rfl rfl) rfl (.refl _) (ren_sl (TyOk.int .i64) _) (lt_sl rfl ((TyOk.int .i64).ltm _ _)) (SelE.leaf (lk 14 rfl rfl) rfl (.refl _) (fun m => ((TyOk.int .i64).lt _ _)) (SelE.leaf (lk 15 rfl rfl) rfl (.refl _) (fun m => ((TyOk.int .i64).lt _ _)) .nil))))) (.cons rfl rfl trivial .nil))⟩
    · skip
      refine AWp.exit ?_
      refine thenQ_x ?_
      refine thenQ_x ?_
      refine blockQ_x ?_
      refine thenQ_n ?_
      exact ⟨_, h3.ret, (Wk.selS [0] (by decide) rfl (SelE.spec (lk 3 rfl rfl) rfl (.refl _) (ren_sl (TyOk.int .i64) _) (lt_sl rfl ((TyOk.int .i64).ltm _ _)) (SelE.leaf (lk 4 rfl rfl) rfl (.refl _) (fun m => ((TyOk.int .i64).lt _ _)) (SelE.leaf (lk 5 rfl rfl) rfl (.refl _) (fun m => ((TyOk.int .i64).lt _ _)) .nil))) (.cons rfl rfl trivial .nil))⟩
  · skip
    refine thenQ_n ?_
    refine AWp.seq ?_
    refine W.reg [0, 1, 2, 3, 4, 5] rfl ?_
    refine S.sil 26 rfl rfl (fun _ hF => .move (lk 0 rfl rfl)) ?_
    obtain ⟨r8, m8, h⟩ := h.bnd
    refine S.sil 27 rfl rfl (fun _ hF => .callQ ent87 cF (.c (lk 0 rfl rfl) (vsub rfl (.forget _ _ _)) .nil) (C_num_Sum m8)) ?_
    refine S.sil 28 rfl rfl (fun _ hF => .extract (lk 0 rfl rfl) rfl) ?_
    refine S.sil 29 rfl rfl (fun _ hF => .extract (lk 1 rfl rfl) rfl) ?_
    refine S.sil 2 rfl rfl (fun _ hF => .assign (lk 1 rfl rfl)) ?_
    refine S.sil 3 rfl rfl (fun _ hF => .assign (lk 1 rfl rfl)) ?_
    refine S.nil ?_
    refine thenQ_n ?_
    refine AWp.ret ?_
    obtain rfl := h.ret
    exact endFN rfl (Wk.selS [] .nil rfl (SelE.leaf (lk 1 rfl rfl) rfl (.refl _) (fun m => ((TyOk.int .i64).lt _ _)) (SelE.leaf (lk 0 rfl rfl) rfl (.refl _) (fun m => ((TyOk.int .i64).lt _ _)) .nil)) .nil) (.cons (.tmp (lk 0 rfl rfl) rfl) (.cons (.tmp (lk 1 rfl rfl) rfl) .nil)) rfl rfl rfl
theorem C_field_View {a1 : TField} {r : Int × Int} (h : field_View a1 = some r) : PureC Pg 61 [E_TField a1] (.tup [(V.int .i64) r.1, (V.int .i64) r.2]) := by
  refine PureC.ofF (CallSpec.of_bodyF 18 0 fn61 rfl rfl rfl (Nat.le_of_ble_eq_true rfl) ?_) (ltL_c (ty_TField.lt _ _) ltL_nil) (lt_tup (ltL_c ((TyOk.int .i64).lt _ _) (ltL_c ((TyOk.int .i64).lt _ _) ltL_nil)))
  replace h := Ok.of h
  unfold field_View at h
  refine AWp.seq ?_
  refine W.reg [0, 1, 2] rfl ?_
  refine S.eff 1 rfl rfl (.nf (v2 := .ptr 0 [] 0) (H2 := [.cells (E_TField a1)]) (.box (lk 0 rfl rfl) rfl) rfl rfl) trivial ?_
  refine S.sil 2 rfl rfl (fun _ hF => .assign cI) ?_
  refine S.sil 3 rfl rfl (fun _ hF => .assign cI) ?_
  refine S.nil ?_
  refine thenQ_n ?_
  refine AWp.wk (Wk.freeze 0 rfl rfl (.same (lk 0 rfl rfl) (.same (lk 1 rfl rfl) (.cons (lk 2 rfl rfl) rfl (.ptr .nil (by first | rfl | omega)) .nil))) (.refl _)) ?_
  refine AWp.seq ?_
  refine AWp.seq ?_
  refine W.reg [0, 1] rfl ?_
  refine S.sil 4 rfl rfl (fun _ hF => .fieldAddrC lay33 rfl rfl (lk 2 rfl rfl) rfl (flL_c (show flen _ = 1 from rfl) flL_nil)) ?_
  refine S.sil 5 rfl rfl (fun _ hF => .loadC sz3 ag3 (lk 0 rfl rfl) rfl rfl) ?_
  refine S.nil ?_
  refine thenQ_n ?_
  refine AWp.block ?_
  refine AWp.seq ?_
  refine W.reg [0, 1] rfl ?_
  refine S.sil 7 rfl rfl (fun _ hF => .eql (lk 0 rfl rfl) cI) ?_
  refine S.sil 6 rfl rfl (fun _ hF => .assign (lk 0 rfl rfl)) ?_
  refine S.nil ?_
  refine thenQ_n ?_
  refine AWp.condM (lk 0 rfl rfl) h (fun c1 h => ?_) (fun c1 h => ?_)
  · skip
    refine AWp.seq ?_
    refine W.reg [0, 1, 2, 3, 4, 5, 6] rfl ?_
    refine S.sil 8 rfl rfl (fun _ hF => .fieldAddrC lay33 rfl rfl (lk 6 rfl rfl) rfl (flL_c (show flen _ = 1 from rfl) (flL_c (show flen _ = 1 from rfl) (flL_c (show flen _ = 1 from rfl) flL_nil)))) ?_
    refine S.sil 9 rfl rfl (fun _ hF => .loadC sz28 ag28 (lk 0 rfl rfl) (ty_TCounter.fl a1.Counter) rfl) ?_
    obtain ⟨r2, m2, h⟩ := h.bnd
    refine S.sil 10 rfl rfl (fun _ hF => .callQ ent111 cF (.c (lk 0 rfl rfl) (V.sub.refl _) .nil) (C_counter_Value m2)) ?_
    refine S.sil 11 rfl rfl (fun _ hF => .extract (lk 0 rfl rfl) rfl) ?_
    refine S.sil 12 rfl rfl (fun _ hF => .extract (lk 1 rfl rfl) rfl) ?_
    refine S.sil 2 rfl rfl (fun _ hF => .assign (lk 1 rfl rfl)) ?_
    refine S.sil 3 rfl rfl (fun _ hF => .assign (lk 1 rfl rfl)) ?_
    refine S.nil ?_
    refine thenQ_n ?_
    refine AWp.prune (.eq (lk 0 rfl rfl) rfl (.eq (lk 1 rfl rfl) rfl .nil)) ?_
    refine AWp.ret ?_
    refine blockQ_r ?_
    refine thenQ_r ?_
    obtain rfl := h.ret
    exact endFN rfl (Wk.selS [] .nil rfl (SelE.leaf (lk 1 rfl rfl) rfl (.refl _) (fun m => ((TyOk.int .i64).lt _ _)) (SelE.leaf (lk 0 rfl rfl) rfl (.refl _) (fun m => ((TyOk.int .i64).lt _ _)) .nil)) .nil) (.cons (.tmp (lk 0 rfl rfl) rfl) (.cons (.tmp (lk 1 rfl rfl) rfl) .nil)) rfl rfl rfl
  · skip
    refine AWp.seq ?_
    refine W.reg [0, 1] rfl ?_
    refine S.sil 14 rfl rfl (fun _ hF => .eql (lk 2 rfl rfl) cI) ?_
    refine S.sil 13 rfl rfl (fun _ hF => .assign (lk 0 rfl rfl)) ?_
    refine S.nil ?_
    refine thenQ_n ?_
    refine AWp.condM (lk 0 rfl rfl) h (fun c2 h => ?_) (fun c2 h => ?_)
    · skip
      refine AWp.seq ?_
      refine W.reg [0, 1, 2, 3, 4] rfl ?_
      refine S.sil 15 rfl rfl (fun _ hF => .fieldAddrC lay33 rfl rfl (lk 8 rfl rfl) rfl (flL_c (show flen _ = 1 from rfl) (flL_c (show flen _ = 1 from rfl) (flL_c (show flen _ = 1 from rfl) (flL_c (ty_TCounter.fl a1.Counter) flL_nil))))) ?_
      refine S.sil 16 rfl rfl (fun _ hF => .fieldAddrC lay30 rfl rfl (lk 0 rfl rfl) rfl (flL_c (show flen _ = 1 from rfl) (flL_c (show flen _ = 1 from rfl) (flL_c (show flen _ = 1 from rfl) flL_nil)))) ?_
      refine S.sil 17 rfl rfl (fun _ hF => .loadC sz3 ag3 (lk 0 rfl rfl) rfl rfl) ?_
      refine S.sil 2 rfl rfl (fun _ hF => .assign (lk 0 rfl rfl)) ?_
      refine S.sil 3 rfl rfl (fun _ hF => .assign cI) ?_
      refine S.nil ?_
      refine thenQ_n ?_
      refine AWp.prune (.eq (lk 0 rfl rfl) rfl (.eq (lk 1 rfl rfl) rfl .nil)) ?_
      refine AWp.ret ?_
      refine blockQ_r ?_
      refine thenQ_r ?_
      obtain rfl := h.ret
      exact endFN rfl (Wk.selS [] .nil rfl (SelE.leaf (lk 1 rfl rfl) rfl (.refl _) (fun m => ((TyOk.int .i64).lt _ _)) (SelE.leaf (lk 0 rfl rfl) rfl (.refl _) (fun m => ((TyOk.int .i64).lt _ _)) .nil)) .nil) (.cons (.tmp (lk 0 rfl rfl) rfl) (.cons (.tmp (lk 1 rfl rfl) rfl) .nil)) rfl rfl rfl
    · skip
      refine AWp.skip ?_
      refine blockQ_n ?_
      refine thenQ_n ?_
      refine AWp.seq ?_
      refine W.reg [0, 1] rfl ?_
      refine S.sil 2 rfl rfl (fun _ hF => .assign cI) ?_
      refine S.sil 3 rfl rfl (fun _ hF => .assign cI) ?_
      refine S.nil ?_
      refine thenQ_n ?_
      refine AWp.ret ?_
      obtain rfl := h.ret
      exact endFN rfl (Wk.selS [] .nil rfl (SelE.leaf (lk 1 rfl rfl) rfl (.refl _) (fun m => ((TyOk.int .i64).lt _ _)) (SelE.leaf (lk 0 rfl rfl) rfl (.refl _) (fun m => ((TyOk.int .i64).lt _ _)) .nil)) .nil) (.cons (.tmp (lk 0 rfl rfl) rfl) (.cons (.tmp (lk 1 rfl rfl) rfl) .nil)) rfl rfl rfl
theorem C_vec_Right {a1 : Vector Int 16} {r : Bool} (h : vec_Right a1 = some r) : PureC Pg 158 [E_A16_i64 a1] (V.bool r) := by
  refine PureC.ofF (CallSpec.of_bodyF 17 0 fn158 rfl rfl rfl (Nat.le_of_ble_eq_true rfl) ?_) (ltL_c (ty_A16_i64.lt _ _) ltL_nil) (TyOk.bool.lt _ _)
  replace h := Ok.of h
  unfold vec_Right at h
  refine AWp.seq ?_
  refine W.reg [0, 1] rfl ?_
  refine S.eff 1 rfl rfl (.nf (v2 := .ptr 0 [] 0) (H2 := [.cells (E_A16_i64 a1)]) (.box (lk 0 rfl rfl) rfl) rfl rfl) trivial ?_
  refine S.sil 2 rfl rfl (fun _ hF => .assign cB) ?_
  refine S.nil ?_
  refine thenQ_n ?_
  refine AWp.wk (Wk.freeze 0 rfl rfl (.same (lk 0 rfl rfl) (.cons (lk 1 rfl rfl) rfl (.ptr .nil (by first | rfl | omega)) .nil)) (.refl _)) ?_
  refine AWp.seq ?_
  refine AWp.seq ?_
  refine W.reg [0, 1] rfl ?_
  refine S.sil 5 rfl rfl (fun _ hF => .loadC sz23 ag23 (lk 1 rfl rfl) (ty_A16_i64.fl a1) rfl) ?_
  refine S.sil 6 rfl rfl (fun _ hF => .move cI) ?_
  refine S.nil ?_
  refine thenQ_n ?_
  refine AWp.cutL (fun x4 => ⟨[(2, V.bool false)], []⟩) nc_then h (fun q2 hq2 h => ?_) (fun x4 h => ?_)
  · refine AWp.block ?_
    refine AWp.loopT (fun s3 => ⟨[(6, (V.int .i64) s3), (5, E_A16_i64 a1), (2, V.bool false)], []⟩) hq2 (Wk.selS [] (by decide) rfl (SelE.leaf (lk 0 rfl rfl) rfl (.refl _) (fun m => ((TyOk.int .i64).lt _ _)) (SelE.leaf (lk 1 rfl rfl) rfl (.refl _) (fun m => (ty_A16_i64.lt _ _)) (SelE.leaf (lk 2 rfl rfl) rfl (.refl _) (fun m => (TyOk.bool.lt _ _)) .nil))) .nil) (fun _ s3 h2 => ?_)
    rw [vec_Right_L1] at h2
    refine AWp.seq ?_
    refine W.reg [0] rfl ?_
    refine S.sil 7 rfl rfl (fun _ hF => .lss (lk 0 rfl rfl) cI) ?_
    refine S.nil ?_
    refine thenQ_n ?_
    refine AWp.seq ?_
    refine AWp.condM (lk 0 rfl rfl) h2 (fun c1 h2 => ?_) (fun c1 h2 => ?_)
    · skip
      refine AWp.skip ?_
      refine thenQ_n ?_
      refine AWp.seq ?_
      refine AWp.block ?_
      refine AWp.seq ?_
      refine W.reg [0, 1] rfl ?_
      obtain ⟨k5, m5, h2⟩ := h2.bnd
      refine S.sil 8 rfl rfl (fun _ hF => .ixV arr23 (lk 2 rfl rfl) (lk 1 rfl rfl) m5 rfl) ?_
      refine S.sil 4 rfl rfl (fun _ hF => .assign (lk 0 rfl rfl)) ?_
      refine S.nil ?_
      refine thenQ_n ?_
      refine AWp.seq ?_
      refine W.reg [0, 1, 2, 3, 4, 5, 6] rfl ?_
      refine S.sil 9 rfl rfl (fun _ hF => .move (lk 0 rfl rfl)) ?_
      refine S.sil 10 rfl rfl (fun _ hF => .lss (lk 0 rfl rfl) cI) ?_
      refine S.sil 11 rfl rfl (fun _ hF => .move (lk 0 rfl rfl)) ?_
      refine S.gsil 12 2 11 false rfl rfl rfl (lk 0 rfl rfl) (fun hB _ hF => .move (lk 3 rfl rfl)) ?_
      obtain ⟨r6, m6, h2⟩ := h2.bnd
      refine S.gsil 13 2 11 false rfl rfl rfl (lk 1 rfl rfl) (fun hB _ hF => .callQ ent64 cF (.c (ifT hB (lk 0 rfl rfl)) (V.sub.refl _) .nil) (C_num_Is (gd_get m6 hB))) ?_
      refine S.gsil 14 2 11 false rfl rfl rfl (lk 2 rfl rfl) (fun hB _ hF => .not (ifT hB (lk 0 rfl rfl))) ?_
      refine S.sil 15 rfl rfl (fun _ hF => .pickOr (lk 3 rfl rfl) cB (fun h => ifT h (lk 0 rfl rfl))) ?_
      refine S.nil ?_
      refine thenQ_n ?_
      refine AWp.condM (lk 0 rfl rfl) h2 (fun c2 h2 => ?_) (fun c2 h2 => ?_)
      · skip
        refine AWp.seq ?_
        refine W.reg [0] rfl ?_
        refine S.sil 2 rfl rfl (fun _ hF => .assign cB) ?_
        refine S.nil ?_
        refine thenQ_n ?_
        refine AWp.ret ?_
        refine blockQ_r ?_
        refine thenQ_r ?_
        refine thenQ_r ?_
        refine blockQ_r ?_
        refine thenQ_r ?_
        refine thenQ_r ?_
        have h := Ok.inrq h h2.ret
        obtain rfl := h.ret
        exact endF1 rfl (Wk.selS [] .nil rfl (SelE.leaf (lk 0 rfl rfl) rfl (.refl _) (fun m => (TyOk.bool.lt _ _)) .nil) .nil) (.tmp (lk 0 rfl rfl) rfl) rfl rfl
      · skip
        refine AWp.skip ?_
        refine blockQ_n ?_
        refine thenQ_n ?_
        refine W.reg [0, 1] rfl ?_
        refine S.sil 16 rfl rfl (fun _ hF => .add (lk 10 rfl rfl) cI) ?_
        refine S.sil 6 rfl rfl (fun _ hF => .move (lk 0 rfl rfl)) ?_
        refine S.nil ?_
        refine thenQ_n ?_
        exact ⟨_, h2.ret, (Wk.selS [] (by decide) rfl (SelE.leaf (lk 0 rfl rfl) rfl (.refl _) (fun m => ((TyOk.int .i64).lt _ _)) (SelE.leaf (lk 13 rfl rfl) rfl (.refl _) (fun m => (ty_A16_i64.lt _ _)) (SelE.leaf (lk 14 rfl rfl) rfl (.refl _) (fun m => (TyOk.bool.lt _ _)) .nil))) .nil)⟩
    · skip
      refine AWp.exit ?_
      refine thenQ_x ?_
      refine thenQ_x ?_
      refine blockQ_x ?_
      refine thenQ_n ?_
      exact ⟨_, h2.ret, (Wk.selS [] (by decide) rfl (SelE.leaf (lk 3 rfl rfl) rfl (.refl _) (fun m => (TyOk.bool.lt _ _)) .nil) .nil)⟩
  · skip
    refine thenQ_n ?_
    refine AWp.seq ?_
    refine W.reg [0] rfl ?_
    refine S.sil 2 rfl rfl (fun _ hF => .assign cB) ?_
    refine S.nil ?_
    refine thenQ_n ?_
    refine AWp.ret ?_
    obtain rfl := h.ret
    exact endF1 rfl (Wk.selS [] .nil rfl (SelE.leaf (lk 0 rfl rfl) rfl (.refl _) (fun m => (TyOk.bool.lt _ _)) .nil) .nil) (.tmp (lk 0 rfl rfl) rfl) rfl rfl
theorem C_rights_Right {a1 : TRights} {r : Bool} (h : rights_Right a1 = some r) : PureC Pg 126 [E_TRights a1] (V.bool r) := by
  refine PureC.ofF (CallSpec.of_bodyF 31 0 fn126 rfl rfl rfl (Nat.le_of_ble_eq_true rfl) ?_) (ltL_c (ty_TRights.lt _ _) ltL_nil) (TyOk.bool.lt _ _)
  replace h := Ok.of h
  unfold rights_Right at h
  refine AWp.seq ?_
  refine W.reg [0, 1] rfl ?_
  refine S.eff 1 rfl rfl (.nf (v2 := .ptr 0 [] 0) (H2 := [.cells (E_TRights a1)]) (.box (lk 0 rfl rfl) rfl) rfl rfl) trivial ?_
  refine S.sil 2 rfl rfl (fun _ hF => .assign cB) ?_
  refine S.nil ?_
  refine thenQ_n ?_
  refine AWp.wk (Wk.freeze 0 rfl rfl (.same (lk 0 rfl rfl) (.cons (lk 1 rfl rfl) rfl (.ptr .nil (by first | rfl | omega)) .nil)) (.refl _)) ?_
  refine AWp.seq ?_
  refine AWp.seq ?_
  refine W.reg [0, 1, 2, 3, 4, 5, 6, 7, 8, 9] rfl ?_
  refine S.sil 5 rfl rfl (fun _ hF => .fieldAddrC lay26 rfl rfl (lk 1 rfl rfl) rfl flL_nil) ?_
  refine S.sil 6 rfl rfl (fun _ hF => .loadC sz23 ag23 (lk 0 rfl rfl) (ty_A16_i64.fl a1.Given) rfl) ?_
  obtain ⟨r2, m2, h⟩ := h.bnd
  refine S.sil 7 rfl rfl (fun _ hF => .callQ ent158 cF (.c (lk 0 rfl rfl) (V.sub.refl _) .nil) (C_vec_Right m2)) ?_
  refine S.sil 8 rfl rfl (fun _ hF => .not (lk 0 rfl rfl)) ?_
  refine S.sil 9 rfl rfl (fun _ hF => .move (lk 0 rfl rfl)) ?_
  refine S.gsil 10 4 9 false rfl rfl rfl (lk 0 rfl rfl) (fun hB _ hF => .fieldAddrC lay26 rfl rfl (lk 6 rfl rfl) rfl (flL_c (ty_A16_i64.fl a1.Given) flL_nil)) ?_
  refine S.gsil 11 4 9 false rfl rfl rfl (lk 1 rfl rfl) (fun hB _ hF => .loadC sz23 ag23 (ifT hB (lk 0 rfl rfl)) (ty_A16_i64.fl a1.Used) rfl) ?_
  obtain ⟨r3, m3, h⟩ := h.bnd
  refine S.gsil 12 4 9 false rfl rfl rfl (lk 2 rfl rfl) (fun hB _ hF => .callQ ent158 cF (.c (ifT hB (lk 0 rfl rfl)) (V.sub.refl _) .nil) (C_vec_Right (gd_get m3 hB))) ?_
  refine S.gsil 13 4 9 false rfl rfl rfl (lk 3 rfl rfl) (fun hB _ hF => .not (ifT hB (lk 0 rfl rfl))) ?_
  refine S.sil 14 rfl rfl (fun _ hF => .pickOr (lk 4 rfl rfl) cB (fun h => ifT h (lk 0 rfl rfl))) ?_
  refine S.nil ?_
  refine thenQ_n ?_
  refine AWp.condM (lk 0 rfl rfl) h (fun c1 h => ?_) (fun c1 h => ?_)
  · skip
    refine AWp.seq ?_
    refine W.reg [0] rfl ?_
    refine S.sil 2 rfl rfl (fun _ hF => .assign cB) ?_
    refine S.nil ?_
    refine thenQ_n ?_
    refine AWp.prune (.eq (lk 0 rfl rfl) rfl (.eq (lk 12 rfl rfl) rfl .nil)) ?_
    refine AWp.ret ?_
    refine thenQ_r ?_
    obtain rfl := h.ret
    exact endF1 rfl (Wk.selS [] .nil rfl (SelE.leaf (lk 0 rfl rfl) rfl (.refl _) (fun m => (TyOk.bool.lt _ _)) .nil) .nil) (.tmp (lk 0 rfl rfl) rfl) rfl rfl
  · skip
    refine AWp.skip ?_
    refine thenQ_n ?_
    refine AWp.prune (.eq (lk 10 rfl rfl) rfl (.eq (lk 11 rfl rfl) rfl .nil)) ?_
    refine AWp.seq ?_
    refine AWp.seq ?_
    refine W.reg [0, 1, 2] rfl ?_
    refine S.sil 15 rfl rfl (fun _ hF => .fieldAddrC lay26 rfl rfl (lk 1 rfl rfl) rfl (flL_c (ty_A16_i64.fl a1.Given) (flL_c (ty_A16_i64.fl a1.Used) flL_nil))) ?_
    refine S.sil 16 rfl rfl (fun _ hF => .loadC sz24 ag24 (lk 0 rfl rfl) (ty_A16_A16_i64.fl a1.Moved) rfl) ?_
    refine S.sil 17 rfl rfl (fun _ hF => .move cI) ?_
    refine S.nil ?_
    refine thenQ_n ?_
    refine AWp.cutL (fun x6 => ⟨[(2, V.bool false)], []⟩) nc_then h (fun q4 hq4 h => ?_) (fun x6 h => ?_)
    · refine AWp.block ?_
      refine AWp.loopT (fun s5 => ⟨[(17, (V.int .i64) s5), (16, E_A16_A16_i64 a1.Moved), (2, V.bool false)], []⟩) hq4 (Wk.selS [] (by decide) rfl (SelE.leaf (lk 0 rfl rfl) rfl (.refl _) (fun m => ((TyOk.int .i64).lt _ _)) (SelE.leaf (lk 1 rfl rfl) rfl (.refl _) (fun m => (ty_A16_A16_i64.lt _ _)) (SelE.leaf (lk 3 rfl rfl) rfl (.refl _) (fun m => (TyOk.bool.lt _ _)) .nil))) .nil) (fun _ s5 h4 => ?_)
      rw [rights_Right_L1] at h4
      refine AWp.seq ?_
      refine W.reg [0] rfl ?_
      refine S.sil 18 rfl rfl (fun _ hF => .lss (lk 0 rfl rfl) cI) ?_
      refine S.nil ?_
      refine thenQ_n ?_
      refine AWp.seq ?_
      refine AWp.condM (lk 0 rfl rfl) h4 (fun c2 h4 => ?_) (fun c2 h4 => ?_)
      · skip
        refine AWp.skip ?_
        refine thenQ_n ?_
        refine AWp.seq ?_
        refine AWp.block ?_
        refine AWp.seq ?_
        refine W.reg [0, 1, 2, 3, 4] rfl ?_
        refine S.sil 19 rfl rfl (fun _ hF => .move (lk 1 rfl rfl)) ?_
        obtain ⟨k7, m7, h4⟩ := h4.bnd
        refine S.sil 20 rfl rfl (fun _ hF => .ixV arr24 (lk 3 rfl rfl) (lk 2 rfl rfl) m7 rfl) ?_
        refine S.eff 4 rfl rfl (.nf (v2 := .ptr 0 [] 0) (H2 := [.cells (E_A16_i64 (default : Vector Int 16))]) (.alloc zv23) rfl rfl) trivial ?_
        refine S.sil 3 rfl rfl (fun _ hF => .assign (lk 2 rfl rfl)) ?_
        obtain ⟨v8, ev8, h4⟩ := h4.nam
        refine S.effN rfl rfl (.nf (H2 := [.cells (E_A16_i64 v8)]) (.storeP sz23 (lk 1 rfl rfl) (lk 2 rfl rfl) rfl (.refl _) rfl .nil (by first | rfl | omega) .nil (ty_A16_i64.fl (a1.Moved.get k7)) (ty_A16_i64.fl (default : Vector Int 16)) (congrArg (fun z => ([AObj.cells (E_A16_i64 z)] : List AObj)) ev8.symm)) rfl rfl) trivial ?_
        refine S.nil ?_
        refine thenQ_n ?_
        refine AWp.wk (Wk.freeze 0 rfl rfl (.same (lk 0 rfl rfl) (.cons (lk 1 rfl rfl) rfl (.ptr .nil (by first | rfl | omega)) (.same (lk 2 rfl rfl) (.same (lk 3 rfl rfl) (.same (lk 4 rfl rfl) (.same (lk 5 rfl rfl) (.same (lk 6 rfl rfl) (.same (lk 7 rfl rfl) .nil)))))))) (.refl _)) ?_
        refine AWp.seq ?_
        refine W.reg [0, 1, 2, 3, 4, 5, 6, 7, 8] rfl ?_
        refine S.sil 21 rfl rfl (fun _ hF => .loadC sz23 ag23 (lk 1 rfl rfl) (ty_A16_i64.fl v8) rfl) ?_
        obtain ⟨r9, m9, h4⟩ := h4.bnd
        refine S.sil 22 rfl rfl (fun _ hF => .callQ ent158 cF (.c (lk 0 rfl rfl) (V.sub.refl _) .nil) (C_vec_Right m9)) ?_
        refine S.sil 23 rfl rfl (fun _ hF => .not (lk 0 rfl rfl)) ?_
        refine S.sil 24 rfl rfl (fun _ hF => .move (lk 0 rfl rfl)) ?_
        refine S.gsil 25 3 24 false rfl rfl rfl (lk 0 rfl rfl) (fun hB _ hF => .move (lk 4 rfl rfl)) ?_
        obtain ⟨k10, m10, h4⟩ := h4.bnd
        refine S.gsil 26 3 24 false rfl rfl rfl (lk 1 rfl rfl) (fun hB _ hF => .ixC arr23 (lk 6 rfl rfl) (ifT hB (lk 0 rfl rfl)) (gd_get m10 hB)) ?_
        refine S.gsil 27 3 24 false rfl rfl rfl (lk 2 rfl rfl) (fun hB _ hF => .loadC sz3 ag3 (ifT hB (lk 0 rfl rfl)) rfl rfl) ?_
        refine S.gsil 28 3 24 false rfl rfl rfl (lk 3 rfl rfl) (fun hB _ hF => .neq (ifT hB (lk 0 rfl rfl)) cI) ?_
        refine S.sil 29 rfl rfl (fun _ hF => .pickOr (lk 4 rfl rfl) cB (fun h => ifT h (lk 0 rfl rfl))) ?_
        refine S.nil ?_
        refine thenQ_n ?_
        refine AWp.condM (lk 0 rfl rfl) h4 (fun c3 h4 => ?_) (fun c3 h4 => ?_)
        · skip
          refine AWp.seq ?_
          refine W.reg [0] rfl ?_
          refine S.sil 2 rfl rfl (fun _ hF => .assign cB) ?_
          refine S.nil ?_
          refine thenQ_n ?_
          refine AWp.ret ?_
          refine blockQ_r ?_
          refine thenQ_r ?_
          refine thenQ_r ?_
          refine blockQ_r ?_
          refine thenQ_r ?_
          refine thenQ_r ?_
          have h := Ok.inrq h h4.ret
          obtain rfl := h.ret
          exact endF1 rfl (Wk.selS [] .nil rfl (SelE.leaf (lk 0 rfl rfl) rfl (.refl _) (fun m => (TyOk.bool.lt _ _)) .nil) .nil) (.tmp (lk 0 rfl rfl) rfl) rfl rfl
        · skip
          refine AWp.skip ?_
          refine blockQ_n ?_
          refine thenQ_n ?_
          refine W.reg [0, 1] rfl ?_
          refine S.sil 30 rfl rfl (fun _ hF => .add (lk 14 rfl rfl) cI) ?_
          refine S.sil 17 rfl rfl (fun _ hF => .move (lk 0 rfl rfl)) ?_
          refine S.nil ?_
          refine thenQ_n ?_
          exact ⟨_, h4.ret, (Wk.selS [] (by decide) rfl (SelE.leaf (lk 0 rfl rfl) rfl (.refl _) (fun m => ((TyOk.int .i64).lt _ _)) (SelE.leaf (lk 17 rfl rfl) rfl (.refl _) (fun m => (ty_A16_A16_i64.lt _ _)) (SelE.leaf (lk 18 rfl rfl) rfl (.refl _) (fun m => (TyOk.bool.lt _ _)) .nil))) .nil)⟩
      · skip
        refine AWp.exit ?_
        refine thenQ_x ?_
        refine thenQ_x ?_
        refine blockQ_x ?_
        refine thenQ_n ?_
        exact ⟨_, h4.ret, (Wk.selS [] (by decide) rfl (SelE.leaf (lk 3 rfl rfl) rfl (.refl _) (fun m => (TyOk.bool.lt _ _)) .nil) .nil)⟩
    · skip
      refine thenQ_n ?_
      refine AWp.seq ?_
      refine W.reg [0] rfl ?_
      refine S.sil 2 rfl rfl (fun _ hF => .assign cB) ?_
      refine S.nil ?_
      refine thenQ_n ?_
      refine AWp.ret ?_
      obtain rfl := h.ret
      exact endF1 rfl (Wk.selS [] .nil rfl (SelE.leaf (lk 0 rfl rfl) rfl (.refl _) (fun m => (TyOk.bool.lt _ _)) .nil) .nil) (.tmp (lk 0 rfl rfl) rfl) rfl rfl
theorem C_vec_Sum {a1 : Vector Int 16} {r : Int × Int} (h : vec_Sum a1 = some r) : PureC Pg 159 [E_A16_i64 a1] (.tup [(V.int .i64) r.1, (V.int .i64) r.2]) := by
  refine PureC.ofF (CallSpec.of_bodyF 8 0 fn159 rfl rfl rfl (Nat.le_of_ble_eq_true rfl) ?_) (ltL_c (ty_A16_i64.lt _ _) ltL_nil) (lt_tup (ltL_c ((TyOk.int .i64).lt _ _) (ltL_c ((TyOk.int .i64).lt _ _) ltL_nil)))
  replace h := Ok.of h
  unfold vec_Sum at h
  refine AWp.seq ?_
  refine W.reg [0, 1, 2] rfl ?_
  refine S.eff 1 rfl rfl (.nf (v2 := .ptr 0 [] 0) (H2 := [.cells (E_A16_i64 a1)]) (.box (lk 0 rfl rfl) rfl) rfl rfl) trivial ?_
  refine S.sil 2 rfl rfl (fun _ hF => .assign cI) ?_
  refine S.sil 3 rfl rfl (fun _ hF => .assign cI) ?_
  refine S.nil ?_
  refine thenQ_n ?_
  refine AWp.wk (Wk.freeze 0 rfl rfl (.same (lk 0 rfl rfl) (.same (lk 1 rfl rfl) (.cons (lk 2 rfl rfl) rfl (.ptr .nil (by first | rfl | omega)) .nil))) (.refl _)) ?_
  refine AWp.seq ?_
  refine W.reg [0, 1, 2, 3, 4, 5] rfl ?_
  refine S.sil 4 rfl rfl (fun _ hF => .sliceArr arr23 (lk 2 rfl rfl) (by simp)) ?_
  obtain ⟨r2, m2, h⟩ := h.bnd
  refine S.sil 5 rfl rfl (fun _ hF => .callQ ent87 cF (.c (lk 0 rfl rfl) (vsub rfl (.forget _ _ _)) .nil) (C_num_Sum m2)) ?_
  refine S.sil 6 rfl rfl (fun _ hF => .extract (lk 0 rfl rfl) rfl) ?_
  refine S.sil 7 rfl rfl (fun _ hF => .extract (lk 1 rfl rfl) rfl) ?_
  refine S.sil 2 rfl rfl (fun _ hF => .assign (lk 1 rfl rfl)) ?_
  refine S.sil 3 rfl rfl (fun _ hF => .assign (lk 1 rfl rfl)) ?_
  refine S.nil ?_
  refine thenQ_n ?_
  refine AWp.ret ?_
  obtain rfl := h.ret
  exact endFN rfl (Wk.selS [] .nil rfl (SelE.leaf (lk 1 rfl rfl) rfl (.refl _) (fun m => ((TyOk.int .i64).lt _ _)) (SelE.leaf (lk 0 rfl rfl) rfl (.refl _) (fun m => ((TyOk.int .i64).lt _ _)) .nil)) .nil) (.cons (.tmp (lk 0 rfl rfl) rfl) (.cons (.tmp (lk 1 rfl rfl) rfl) .nil)) rfl rfl rfl
theorem C_counter_given {a1 : TRights} {a2 : TRights} {a3 : Int} {r : Bool} (h : counter_given a1 a2 a3 = some r) : PureC Pg 127 [E_TRights a1, E_TRights a2, (V.int .i64) a3] (V.bool r) := by
  refine PureC.ofF (CallSpec.of_bodyF 46 0 fn127 rfl rfl rfl (Nat.le_of_ble_eq_true rfl) ?_) (ltL_c (ty_TRights.lt _ _) (ltL_c (ty_TRights.lt _ _) (ltL_c ((TyOk.int .i64).lt _ _) ltL_nil))) (TyOk.bool.lt _ _)
  replace h := Ok.of h
  unfold counter_given at h
  refine AWp.seq ?_
  refine W.reg [0, 1, 2] rfl ?_
  refine S.eff 3 rfl rfl (.nf (v2 := .ptr 0 [] 0) (H2 := [.cells (E_TRights a1)]) (.box (lk 0 rfl rfl) rfl) rfl rfl) trivial ?_
  refine S.eff 4 rfl rfl (.nf (v2 := .ptr 1 [] 0) (H2 := [.cells (E_TRights a1), .cells (E_TRights a2)]) (.box (lk 2 rfl rfl) rfl) rfl rfl) trivial ?_
  refine S.sil 6 rfl rfl (fun _ hF => .assign cB) ?_
  refine S.nil ?_
  refine thenQ_n ?_
  refine AWp.wk (Wk.freeze 0 rfl rfl (.same (lk 0 rfl rfl) (.same (lk 1 rfl rfl) (.cons (lk 2 rfl rfl) rfl (.ptr .nil (by first | rfl | omega)) (.same (lk 5 rfl rfl) .nil)))) (.refl _)) ?_
  refine AWp.wk (Wk.freeze 1 rfl rfl (.same (lk 0 rfl rfl) (.cons (lk 1 rfl rfl) rfl (.ptr .nil (by first | rfl | omega)) (.same (lk 2 rfl rfl) (.same (lk 3 rfl rfl) .nil)))) (.refl _)) ?_
  refine AWp.seq ?_
  refine W.reg [0, 1, 2, 3, 4, 5, 6, 7] rfl ?_
  refine S.sil 14 rfl rfl (fun _ hF => .fieldAddrC lay26 rfl rfl (lk 2 rfl rfl) rfl flL_nil) ?_
  refine S.sil 15 rfl rfl (fun _ hF => .loadC sz23 ag23 (lk 0 rfl rfl) (ty_A16_i64.fl a1.Given) rfl) ?_
  obtain ⟨r4, m4, h⟩ := h.bnd
  refine S.sil 16 rfl rfl (fun _ hF => .callQ ent159 cF (.c (lk 0 rfl rfl) (V.sub.refl _) .nil) (C_vec_Sum m4)) ?_
  refine S.sil 13 rfl rfl (fun _ hF => .move (lk 0 rfl rfl)) ?_
  refine S.sil 17 rfl rfl (fun _ hF => .extract (lk 0 rfl rfl) rfl) ?_
  refine S.sil 18 rfl rfl (fun _ hF => .extract (lk 1 rfl rfl) rfl) ?_
  refine S.sil 7 rfl rfl (fun _ hF => .assign (lk 1 rfl rfl)) ?_
  refine S.sil 8 rfl rfl (fun _ hF => .assign (lk 1 rfl rfl)) ?_
  refine S.nil ?_
  refine thenQ_n ?_
  refine AWp.seq ?_
  refine W.reg [0, 1, 2, 3, 4, 5, 6, 7] rfl ?_
  refine S.sil 20 rfl rfl (fun _ hF => .fieldAddrC lay26 rfl rfl (lk 9 rfl rfl) rfl (flL_c (ty_A16_i64.fl a2.Given) flL_nil)) ?_
  refine S.sil 21 rfl rfl (fun _ hF => .loadC sz23 ag23 (lk 0 rfl rfl) (ty_A16_i64.fl a2.Used) rfl) ?_
  obtain ⟨r5, m5, h⟩ := h.bnd
  refine S.sil 22 rfl rfl (fun _ hF => .callQ ent159 cF (.c (lk 0 rfl rfl) (V.sub.refl _) .nil) (C_vec_Sum m5)) ?_
  refine S.sil 19 rfl rfl (fun _ hF => .move (lk 0 rfl rfl)) ?_
  refine S.sil 23 rfl rfl (fun _ hF => .extract (lk 0 rfl rfl) rfl) ?_
  refine S.sil 24 rfl rfl (fun _ hF => .extract (lk 1 rfl rfl) rfl) ?_
  refine S.sil 9 rfl rfl (fun _ hF => .assign (lk 1 rfl rfl)) ?_
  refine S.sil 10 rfl rfl (fun _ hF => .assign (lk 1 rfl rfl)) ?_
  refine S.nil ?_
  refine thenQ_n ?_
  refine AWp.prune (.eq (lk 0 rfl rfl) rfl (.eq (lk 1 rfl rfl) rfl (.eq (lk 8 rfl rfl) rfl (.eq (lk 9 rfl rfl) rfl (.eq (lk 16 rfl rfl) rfl (.eq (lk 19 rfl rfl) rfl .nil)))))) ?_
  refine AWp.seq ?_
  refine W.reg [0, 1, 2, 3, 4, 5, 6, 7] rfl ?_
  refine S.sil 26 rfl rfl (fun _ hF => .move (lk 5 rfl rfl)) ?_
  refine S.sil 27 rfl rfl (fun _ hF => .move (lk 2 rfl rfl)) ?_
  obtain ⟨r6, m6, h⟩ := h.bnd
  refine S.sil 28 rfl rfl (fun _ hF => .callQ ent123 cF (.c (lk 1 rfl rfl) (V.sub.refl _) (.c (lk 0 rfl rfl) (V.sub.refl _) .nil)) (C_num_Add m6)) ?_
  refine S.sil 25 rfl rfl (fun _ hF => .move (lk 0 rfl rfl)) ?_
  refine S.sil 29 rfl rfl (fun _ hF => .extract (lk 0 rfl rfl) rfl) ?_
  refine S.sil 30 rfl rfl (fun _ hF => .extract (lk 1 rfl rfl) rfl) ?_
  refine S.sil 11 rfl rfl (fun _ hF => .assign (lk 1 rfl rfl)) ?_
  refine S.sil 12 rfl rfl (fun _ hF => .assign (lk 1 rfl rfl)) ?_
  refine S.nil ?_
  refine thenQ_n ?_
  refine AWp.seq ?_
  refine W.reg [0, 1, 2, 3, 4, 5, 6, 7, 8, 9, 10, 11, 12, 13, 14, 15] rfl ?_
  refine S.sil 31 rfl rfl (fun _ hF => .move (lk 10 rfl rfl)) ?_
  refine S.sil 32 rfl rfl (fun _ hF => .eql (lk 0 rfl rfl) cI) ?_
  refine S.sil 33 rfl rfl (fun _ hF => .move (lk 0 rfl rfl)) ?_
  refine S.gsil 34 2 33 true rfl rfl rfl (lk 0 rfl rfl) (fun hB _ hF => .move (lk 11 rfl rfl)) ?_
  refine S.gsil 35 2 33 true rfl rfl rfl (lk 1 rfl rfl) (fun hB _ hF => .eql (ifT hB (lk 0 rfl rfl)) cI) ?_
  refine S.sil 36 rfl rfl (fun _ hF => .pickAnd (lk 2 rfl rfl) (fun h => ifT h (lk 0 rfl rfl)) cB) ?_
  refine S.sil 37 rfl rfl (fun _ hF => .move (lk 0 rfl rfl)) ?_
  refine S.gsil 38 6 37 true rfl rfl rfl (lk 0 rfl rfl) (fun hB _ hF => .move (lk 7 rfl rfl)) ?_
  refine S.gsil 39 6 37 true rfl rfl rfl (lk 1 rfl rfl) (fun hB _ hF => .eql (ifT hB (lk 0 rfl rfl)) cI) ?_
  refine S.sil 40 rfl rfl (fun _ hF => .pickAnd (lk 2 rfl rfl) (fun h => ifT h (lk 0 rfl rfl)) cB) ?_
  refine S.sil 41 rfl rfl (fun _ hF => .move (lk 0 rfl rfl)) ?_
  refine S.gsil 42 10 41 true rfl rfl rfl (lk 0 rfl rfl) (fun hB _ hF => .move (lk 22 rfl rfl)) ?_
  refine S.gsil 43 10 41 true rfl rfl rfl (lk 1 rfl rfl) (fun hB _ hF => .move (lk 13 rfl rfl)) ?_
  refine S.gsil 44 10 41 true rfl rfl rfl (lk 2 rfl rfl) (fun hB _ hF => .eql (ifT hB (lk 1 rfl rfl)) (ifT hB (lk 0 rfl rfl))) ?_
  obtain ⟨v7, ev7, h⟩ := h.nam
  refine S.sil 45 rfl rfl (fun _ hF => .nv (.pickAnd (lk 3 rfl rfl) (fun h => ifT h (lk 0 rfl rfl)) cB) (congrArg V.bool ev7.symm)) ?_
  refine S.sil 6 rfl rfl (fun _ hF => .assign (lk 0 rfl rfl)) ?_
  refine S.nil ?_
  refine thenQ_n ?_
  refine AWp.prune (.eq (lk 0 rfl rfl) rfl .nil) ?_
  refine AWp.ret ?_
  obtain rfl := h.ret
  exact endF1 rfl (Wk.selS [] .nil rfl (SelE.leaf (lk 0 rfl rfl) rfl (.refl _) (fun m => (TyOk.bool.lt _ _)) .nil) .nil) (.tmp (lk 0 rfl rfl) rfl) rfl rfl
theorem C_counter_Right {a1 : TCounter} {r : Bool} (h : counter_Right a1 = some r) : PureC Pg 75 [E_TCounter a1] (V.bool r) := by
  refine PureC.ofF (CallSpec.of_bodyF 65 0 fn75 rfl rfl rfl (Nat.le_of_ble_eq_true rfl) ?_) (ltL_c (ty_TCounter.lt _ _) ltL_nil) (TyOk.bool.lt _ _)
  replace h := Ok.of h
  unfold counter_Right at h
  refine AWp.seq ?_
  refine W.reg [0, 1] rfl ?_
  refine S.eff 1 rfl rfl (.nf (v2 := .ptr 0 [] 0) (H2 := [.cells (E_TCounter a1)]) (.box (lk 0 rfl rfl) rfl) rfl rfl) trivial ?_
  refine S.sil 2 rfl rfl (fun _ hF => .assign cB) ?_
  refine S.nil ?_
  refine thenQ_n ?_
  refine AWp.wk (Wk.freeze 0 rfl rfl (.same (lk 0 rfl rfl) (.cons (lk 1 rfl rfl) rfl (.ptr .nil (by first | rfl | omega)) .nil)) (.refl _)) ?_
  refine AWp.seq ?_
  refine AWp.seq ?_
  refine W.reg [0, 1, 2, 3, 4, 5, 6, 7, 8, 9, 10, 11, 12, 13, 14, 15, 16, 17, 18, 19, 20, 21, 22, 23, 24, 25, 26, 27, 28, 29] rfl ?_
  refine S.sil 3 rfl rfl (fun _ hF => .fieldAddrC lay28 rfl rfl (lk 1 rfl rfl) rfl flL_nil) ?_
  refine S.sil 4 rfl rfl (fun _ hF => .loadC sz3 ag3 (lk 0 rfl rfl) rfl rfl) ?_
  obtain ⟨r2, m2, h⟩ := h.bnd
  refine S.sil 5 rfl rfl (fun _ hF => .callQ ent64 cF (.c (lk 0 rfl rfl) (V.sub.refl _) .nil) (C_num_Is m2)) ?_
  refine S.sil 6 rfl rfl (fun _ hF => .not (lk 0 rfl rfl)) ?_
  refine S.sil 7 rfl rfl (fun _ hF => .move (lk 0 rfl rfl)) ?_
  refine S.gsil 8 4 7 false rfl rfl rfl (lk 0 rfl rfl) (fun hB _ hF => .fieldAddrC lay28 rfl rfl (lk 6 rfl rfl) rfl (flL_c (show flen _ = 1 from rfl) flL_nil)) ?_
  refine S.gsil 9 4 7 false rfl rfl rfl (lk 1 rfl rfl) (fun hB _ hF => .loadC sz3 ag3 (ifT hB (lk 0 rfl rfl)) rfl rfl) ?_
  obtain ⟨r3, m3, h⟩ := h.bnd
  refine S.gsil 10 4 7 false rfl rfl rfl (lk 2 rfl rfl) (fun hB _ hF => .callQ ent64 cF (.c (ifT hB (lk 0 rfl rfl)) (V.sub.refl _) .nil) (C_num_Is (gd_get m3 hB))) ?_
  refine S.gsil 11 4 7 false rfl rfl rfl (lk 3 rfl rfl) (fun hB _ hF => .not (ifT hB (lk 0 rfl rfl))) ?_
  refine S.sil 12 rfl rfl (fun _ hF => .pickOr (lk 4 rfl rfl) cB (fun h => ifT h (lk 0 rfl rfl))) ?_
  refine S.sil 13 rfl rfl (fun _ hF => .move (lk 0 rfl rfl)) ?_
  refine S.gsil 14 10 13 false rfl rfl rfl (lk 0 rfl rfl) (fun hB _ hF => .fieldAddrC lay28 rfl rfl (lk 12 rfl rfl) rfl (flL_c (show flen _ = 1 from rfl) (flL_c (show flen _ = 1 from rfl) flL_nil))) ?_
  refine S.gsil 15 10 13 false rfl rfl rfl (lk 1 rfl rfl) (fun hB _ hF => .loadC sz3 ag3 (ifT hB (lk 0 rfl rfl)) rfl rfl) ?_
  obtain ⟨r4, m4, h⟩ := h.bnd
  refine S.gsil 16 10 13 false rfl rfl rfl (lk 2 rfl rfl) (fun hB _ hF => .callQ ent64 cF (.c (ifT hB (lk 0 rfl rfl)) (V.sub.refl _) .nil) (C_num_Is (gd_get m4 hB))) ?_
  refine S.gsil 17 10 13 false rfl rfl rfl (lk 3 rfl rfl) (fun hB _ hF => .not (ifT hB (lk 0 rfl rfl))) ?_
  refine S.sil 18 rfl rfl (fun _ hF => .pickOr (lk 4 rfl rfl) cB (fun h => ifT h (lk 0 rfl rfl))) ?_
  refine S.sil 19 rfl rfl (fun _ hF => .move (lk 0 rfl rfl)) ?_
  refine S.gsil 20 16 19 false rfl rfl rfl (lk 0 rfl rfl) (fun hB _ hF => .fieldAddrC lay28 rfl rfl (lk 18 rfl rfl) rfl (flL_c (show flen _ = 1 from rfl) flL_nil)) ?_
  refine S.gsil 21 16 19 false rfl rfl rfl (lk 1 rfl rfl) (fun hB _ hF => .loadC sz3 ag3 (ifT hB (lk 0 rfl rfl)) rfl rfl) ?_
  refine S.gsil 22 16 19 false rfl rfl rfl (lk 2 rfl rfl) (fun hB _ hF => .fieldAddrC lay28 rfl rfl (lk 20 rfl rfl) rfl flL_nil) ?_
  refine S.gsil 23 16 19 false rfl rfl rfl (lk 3 rfl rfl) (fun hB _ hF => .loadC sz3 ag3 (ifT hB (lk 0 rfl rfl)) rfl rfl) ?_
  refine S.gsil 24 16 19 false rfl rfl rfl (lk 4 rfl rfl) (fun hB _ hF => .gtr (ifT hB (lk 2 rfl rfl)) (ifT hB (lk 0 rfl rfl))) ?_
  refine S.sil 25 rfl rfl (fun _ hF => .pickOr (lk 5 rfl rfl) cB (fun h => ifT h (lk 0 rfl rfl))) ?_
  refine S.sil 26 rfl rfl (fun _ hF => .move (lk 0 rfl rfl)) ?_
  refine S.gsil 27 23 26 false rfl rfl rfl (lk 0 rfl rfl) (fun hB _ hF => .fieldAddrC lay28 rfl rfl (lk 25 rfl rfl) rfl flL_nil) ?_
  refine S.gsil 28 23 26 false rfl rfl rfl (lk 1 rfl rfl) (fun hB _ hF => .loadC sz3 ag3 (ifT hB (lk 0 rfl rfl)) rfl rfl) ?_
  refine S.gsil 29 23 26 false rfl rfl rfl (lk 2 rfl rfl) (fun hB _ hF => .fieldAddrC lay28 rfl rfl (lk 27 rfl rfl) rfl (flL_c (show flen _ = 1 from rfl) (flL_c (show flen _ = 1 from rfl) flL_nil))) ?_
  refine S.gsil 30 23 26 false rfl rfl rfl (lk 3 rfl rfl) (fun hB _ hF => .loadC sz3 ag3 (ifT hB (lk 0 rfl rfl)) rfl rfl) ?_
  refine S.gsil 31 23 26 false rfl rfl rfl (lk 4 rfl rfl) (fun hB _ hF => .gtr (ifT hB (lk 2 rfl rfl)) (ifT hB (lk 0 rfl rfl))) ?_
  obtain ⟨v5, ev5, h⟩ := h.nam
  refine S.sil 32 rfl rfl (fun _ hF => .nv (.pickOr (lk 5 rfl rfl) cB (fun h => ifT h (lk 0 rfl rfl))) (congrArg V.bool ev5.symm)) ?_
  refine S.nil ?_
  refine thenQ_n ?_
  refine AWp.prune (.eq (lk 0 rfl rfl) rfl (.eq (lk 30 rfl rfl) rfl (.eq (lk 31 rfl rfl) rfl .nil))) ?_
  refine AWp.condM (lk 0 rfl rfl) h (fun c1 h => ?_) (fun c1 h => ?_)
  · skip
    refine AWp.seq ?_
    refine W.reg [0] rfl ?_
    refine S.sil 2 rfl rfl (fun _ hF => .assign cB) ?_
    refine S.nil ?_
    refine thenQ_n ?_
    refine AWp.ret ?_
    refine thenQ_r ?_
    obtain rfl := h.ret
    exact endF1 rfl (Wk.selS [] .nil rfl (SelE.leaf (lk 0 rfl rfl) rfl (.refl _) (fun m => (TyOk.bool.lt _ _)) .nil) .nil) (.tmp (lk 0 rfl rfl) rfl) rfl rfl
  · skip
    refine AWp.skip ?_
    refine thenQ_n ?_
    refine AWp.seq ?_
    refine W.reg [0, 1, 2, 3, 4, 5, 6, 7, 8, 9, 10, 11, 12, 13, 14, 15, 16, 17, 18, 19, 20, 21, 22, 23, 24, 25, 26, 27, 28, 29, 30, 31, 32] rfl ?_
    refine S.sil 33 rfl rfl (fun _ hF => .fieldAddrC lay28 rfl rfl (lk 2 rfl rfl) rfl (flL_c (show flen _ = 1 from rfl) (flL_c (show flen _ = 1 from rfl) (flL_c (show flen _ = 1 from rfl) flL_nil)))) ?_
    refine S.sil 34 rfl rfl (fun _ hF => .loadC sz26 ag26 (lk 0 rfl rfl) (ty_TRights.fl a1.Down) rfl) ?_
    obtain ⟨r6, m6, h⟩ := h.bnd
    refine S.sil 35 rfl rfl (fun _ hF => .callQ ent126 cF (.c (lk 0 rfl rfl) (V.sub.refl _) .nil) (C_rights_Right m6)) ?_
    refine S.sil 36 rfl rfl (fun _ hF => .move (lk 0 rfl rfl)) ?_
    refine S.gsil 37 3 36 true rfl rfl rfl (lk 0 rfl rfl) (fun hB _ hF => .fieldAddrC lay28 rfl rfl (lk 6 rfl rfl) rfl (flL_c (show flen _ = 1 from rfl) (flL_c (show flen _ = 1 from rfl) (flL_c (show flen _ = 1 from rfl) (flL_c (ty_TRights.fl a1.Down) flL_nil))))) ?_
    refine S.gsil 38 3 36 true rfl rfl rfl (lk 1 rfl rfl) (fun hB _ hF => .loadC sz26 ag26 (ifT hB (lk 0 rfl rfl)) (ty_TRights.fl a1.Up) rfl) ?_
    obtain ⟨r7, m7, h⟩ := h.bnd
    refine S.gsil 39 3 36 true rfl rfl rfl (lk 2 rfl rfl) (fun hB _ hF => .callQ ent126 cF (.c (ifT hB (lk 0 rfl rfl)) (V.sub.refl _) .nil) (C_rights_Right (gd_get m7 hB))) ?_
    refine S.sil 40 rfl rfl (fun _ hF => .pickAnd (lk 3 rfl rfl) (fun h => ifT h (lk 0 rfl rfl)) cB) ?_
    refine S.sil 41 rfl rfl (fun _ hF => .move (lk 0 rfl rfl)) ?_
    refine S.gsil 42 8 41 true rfl rfl rfl (lk 0 rfl rfl) (fun hB _ hF => .fieldAddrC lay28 rfl rfl (lk 11 rfl rfl) rfl (flL_c (show flen _ = 1 from rfl) (flL_c (show flen _ = 1 from rfl) (flL_c (show flen _ = 1 from rfl) flL_nil)))) ?_
    refine S.gsil 43 8 41 true rfl rfl rfl (lk 1 rfl rfl) (fun hB _ hF => .loadC sz26 ag26 (ifT hB (lk 0 rfl rfl)) (ty_TRights.fl a1.Down) rfl) ?_
    refine S.gsil 44 8 41 true rfl rfl rfl (lk 2 rfl rfl) (fun hB _ hF => .fieldAddrC lay28 rfl rfl (lk 13 rfl rfl) rfl (flL_c (show flen _ = 1 from rfl) (flL_c (show flen _ = 1 from rfl) (flL_c (show flen _ = 1 from rfl) (flL_c (ty_TRights.fl a1.Down) flL_nil))))) ?_
    refine S.gsil 45 8 41 true rfl rfl rfl (lk 3 rfl rfl) (fun hB _ hF => .loadC sz26 ag26 (ifT hB (lk 0 rfl rfl)) (ty_TRights.fl a1.Up) rfl) ?_
    refine S.gsil 46 8 41 true rfl rfl rfl (lk 4 rfl rfl) (fun hB _ hF => .fieldAddrC lay28 rfl rfl (lk 15 rfl rfl) rfl flL_nil) ?_
    refine S.gsil 47 8 41 true rfl rfl rfl (lk 5 rfl rfl) (fun hB _ hF => .loadC sz3 ag3 (ifT hB (lk 0 rfl rfl)) rfl rfl) ?_
    refine S.gsil 48 8 41 true rfl rfl rfl (lk 6 rfl rfl) (fun hB _ hF => .fieldAddrC lay28 rfl rfl (lk 17 rfl rfl) rfl (flL_c (show flen _ = 1 from rfl) flL_nil)) ?_
    refine S.gsil 49 8 41 true rfl rfl rfl (lk 7 rfl rfl) (fun hB _ hF => .loadC sz3 ag3 (ifT hB (lk 0 rfl rfl)) rfl rfl) ?_
    refine S.gsil 50 8 41 true rfl rfl rfl (lk 8 rfl rfl) (fun hB _ hF => .sub (ifT hB (lk 2 rfl rfl)) (ifT hB (lk 0 rfl rfl))) ?_
    obtain ⟨r8, m8, h⟩ := h.bnd
    refine S.gsil 51 8 41 true rfl rfl rfl (lk 9 rfl rfl) (fun hB _ hF => .callQ ent127 cF (.c (ifT hB (lk 7 rfl rfl)) (V.sub.refl _) (.c (ifT hB (lk 5 rfl rfl)) (V.sub.refl _) (.c (ifT hB (lk 0 rfl rfl)) (V.sub.refl _) .nil))) (C_counter_given (gd_get m8 hB))) ?_
    refine S.sil 52 rfl rfl (fun _ hF => .pickAnd (lk 10 rfl rfl) (fun h => ifT h (lk 0 rfl rfl)) cB) ?_
    refine S.sil 53 rfl rfl (fun _ hF => .move (lk 0 rfl rfl)) ?_
    refine S.gsil 54 20 53 true rfl rfl rfl (lk 0 rfl rfl) (fun hB _ hF => .fieldAddrC lay28 rfl rfl (lk 23 rfl rfl) rfl (flL_c (show flen _ = 1 from rfl) (flL_c (show flen _ = 1 from rfl) (flL_c (show flen _ = 1 from rfl) (flL_c (ty_TRights.fl a1.Down) flL_nil))))) ?_
    refine S.gsil 55 20 53 true rfl rfl rfl (lk 1 rfl rfl) (fun hB _ hF => .loadC sz26 ag26 (ifT hB (lk 0 rfl rfl)) (ty_TRights.fl a1.Up) rfl) ?_
    refine S.gsil 56 20 53 true rfl rfl rfl (lk 2 rfl rfl) (fun hB _ hF => .fieldAddrC lay28 rfl rfl (lk 25 rfl rfl) rfl (flL_c (show flen _ = 1 from rfl) (flL_c (show flen _ = 1 from rfl) (flL_c (show flen _ = 1 from rfl) flL_nil)))) ?_
    refine S.gsil 57 20 53 true rfl rfl rfl (lk 3 rfl rfl) (fun hB _ hF => .loadC sz26 ag26 (ifT hB (lk 0 rfl rfl)) (ty_TRights.fl a1.Down) rfl) ?_
    refine S.gsil 58 20 53 true rfl rfl rfl (lk 4 rfl rfl) (fun hB _ hF => .fieldAddrC lay28 rfl rfl (lk 27 rfl rfl) rfl (flL_c (show flen _ = 1 from rfl) (flL_c (show flen _ = 1 from rfl) flL_nil))) ?_
    refine S.gsil 59 20 53 true rfl rfl rfl (lk 5 rfl rfl) (fun hB _ hF => .loadC sz3 ag3 (ifT hB (lk 0 rfl rfl)) rfl rfl) ?_
    refine S.gsil 60 20 53 true rfl rfl rfl (lk 6 rfl rfl) (fun hB _ hF => .fieldAddrC lay28 rfl rfl (lk 29 rfl rfl) rfl flL_nil) ?_
    refine S.gsil 61 20 53 true rfl rfl rfl (lk 7 rfl rfl) (fun hB _ hF => .loadC sz3 ag3 (ifT hB (lk 0 rfl rfl)) rfl rfl) ?_
    refine S.gsil 62 20 53 true rfl rfl rfl (lk 8 rfl rfl) (fun hB _ hF => .sub (ifT hB (lk 2 rfl rfl)) (ifT hB (lk 0 rfl rfl))) ?_
    obtain ⟨r9, m9, h⟩ := h.bnd
    refine S.gsil 63 20 53 true rfl rfl rfl (lk 9 rfl rfl) (fun hB _ hF => .callQ ent127 cF (.c (ifT hB (lk 7 rfl rfl)) (V.sub.refl _) (.c (ifT hB (lk 5 rfl rfl)) (V.sub.refl _) (.c (ifT hB (lk 0 rfl rfl)) (V.sub.refl _) .nil))) (C_counter_given (gd_get m9 hB))) ?_
    refine S.sil 64 rfl rfl (fun _ hF => .pickAnd (lk 10 rfl rfl) (fun h => ifT h (lk 0 rfl rfl)) cB) ?_
    obtain ⟨v10, ev10, h⟩ := h.nam
    refine S.sil 2 rfl rfl (fun _ hF => .nv (.assign (lk 0 rfl rfl)) (congrArg V.bool ev10.symm)) ?_
    refine S.nil ?_
    refine thenQ_n ?_
    refine AWp.prune (.eq (lk 0 rfl rfl) rfl .nil) ?_
    refine AWp.ret ?_
    obtain rfl := h.ret
    exact endF1 rfl (Wk.selS [] .nil rfl (SelE.leaf (lk 0 rfl rfl) rfl (.refl _) (fun m => (TyOk.bool.lt _ _)) .nil) .nil) (.tmp (lk 0 rfl rfl) rfl) rfl rfl
theorem C_lock_Right_1 {a1 : Int} {r : Bool} (h : lock_Right_1 a1 = some r) : PureC Pg 128 [(V.int .i64) a1] (V.bool r) := by
  refine PureC.ofF (CallSpec.of_bodyF 9 0 fn128 rfl rfl rfl (Nat.le_of_ble_eq_true rfl) ?_) (ltL_c ((TyOk.int .i64).lt _ _) ltL_nil) (TyOk.bool.lt _ _)
  replace h := Ok.of h
  unfold lock_Right_1 at h
  refine AWp.seq ?_
  refine W.reg [0] rfl ?_
  refine S.sil 2 rfl rfl (fun _ hF => .assign cB) ?_
  refine S.nil ?_
  refine thenQ_n ?_
  refine AWp.seq ?_
  refine W.reg [0, 1, 2, 3, 4, 5, 6] rfl ?_
  refine S.sil 3 rfl rfl (fun _ hF => .move (lk 1 rfl rfl)) ?_
  refine S.sil 4 rfl rfl (fun _ hF => .geq (lk 0 rfl rfl) cI) ?_
  refine S.sil 5 rfl rfl (fun _ hF => .move (lk 0 rfl rfl)) ?_
  refine S.gsil 6 2 5 true rfl rfl rfl (lk 0 rfl rfl) (fun hB _ hF => .move (lk 4 rfl rfl)) ?_
  obtain ⟨r2, m2, h⟩ := h.bnd
  refine S.gsil 7 2 5 true rfl rfl rfl (lk 1 rfl rfl) (fun hB _ hF => .callQ ent64 cF (.c (ifT hB (lk 0 rfl rfl)) (V.sub.refl _) .nil) (C_num_Is (gd_get m2 hB))) ?_
  refine S.sil 8 rfl rfl (fun _ hF => .pickAnd (lk 2 rfl rfl) (fun h => ifT h (lk 0 rfl rfl)) cB) ?_
  obtain ⟨v3, ev3, h⟩ := h.nam
  refine S.sil 2 rfl rfl (fun _ hF => .nv (.assign (lk 0 rfl rfl)) (congrArg V.bool ev3.symm)) ?_
  refine S.nil ?_
  refine thenQ_n ?_
  refine AWp.ret ?_
  obtain rfl := h.ret
  exact endF1 rfl (Wk.selS [] .nil rfl (SelE.leaf (lk 0 rfl rfl) rfl (.refl _) (fun m => (TyOk.bool.lt _ _)) .nil) .nil) (.tmp (lk 0 rfl rfl) rfl) rfl rfl
theorem C_lock_is {a1 : Int} {r : Bool} (h : lock_is a1 = some r) : PureC Pg 129 [(V.int .i64) a1] (V.bool r) := by
  refine PureC.ofF (CallSpec.of_bodyF 9 0 fn129 rfl rfl rfl (Nat.le_of_ble_eq_true rfl) ?_) (ltL_c ((TyOk.int .i64).lt _ _) ltL_nil) (TyOk.bool.lt _ _)
  replace h := Ok.of h
  unfold lock_is at h
  refine AWp.seq ?_
  refine W.reg [0] rfl ?_
  refine S.sil 2 rfl rfl (fun _ hF => .assign cB) ?_
  refine S.nil ?_
  refine thenQ_n ?_
  refine AWp.seq ?_
  refine W.reg [0, 1, 2, 3, 4, 5, 6] rfl ?_
  refine S.sil 3 rfl rfl (fun _ hF => .move (lk 1 rfl rfl)) ?_
  refine S.sil 4 rfl rfl (fun _ hF => .geq (lk 0 rfl rfl) cI) ?_
  refine S.sil 5 rfl rfl (fun _ hF => .move (lk 0 rfl rfl)) ?_
  refine S.gsil 6 2 5 true rfl rfl rfl (lk 0 rfl rfl) (fun hB _ hF => .move (lk 4 rfl rfl)) ?_
  refine S.gsil 7 2 5 true rfl rfl rfl (lk 1 rfl rfl) (fun hB _ hF => .lss (ifT hB (lk 0 rfl rfl)) cI) ?_
  refine S.sil 8 rfl rfl (fun _ hF => .pickAnd (lk 2 rfl rfl) (fun h => ifT h (lk 0 rfl rfl)) cB) ?_
  obtain ⟨v2, ev2, h⟩ := h.nam
  refine S.sil 2 rfl rfl (fun _ hF => .nv (.assign (lk 0 rfl rfl)) (congrArg V.bool ev2.symm)) ?_
  refine S.nil ?_
  refine thenQ_n ?_
  refine AWp.ret ?_
  obtain rfl := h.ret
  exact endF1 rfl (Wk.selS [] .nil rfl (SelE.leaf (lk 0 rfl rfl) rfl (.refl _) (fun m => (TyOk.bool.lt _ _)) .nil) .nil) (.tmp (lk 0 rfl rfl) rfl) rfl rfl
theorem C_lock_Right {a1 : TLock} {r : Bool} (h : lock_Right a1 = some r) : PureC Pg 77 [E_TLock a1] (V.bool r) := by
  refine PureC.ofF (CallSpec.of_bodyF 24 0 fn77 rfl rfl rfl (Nat.le_of_ble_eq_true rfl) ?_) (ltL_c (ty_TLock.lt _ _) ltL_nil) (TyOk.bool.lt _ _)
  replace h := Ok.of h
  unfold lock_Right at h
  refine AWp.seq ?_
  refine W.reg [0, 1] rfl ?_
  refine S.eff 1 rfl rfl (.nf (v2 := .ptr 0 [] 0) (H2 := [.cells (E_TLock a1)]) (.box (lk 0 rfl rfl) rfl) rfl rfl) trivial ?_
  refine S.sil 2 rfl rfl (fun _ hF => .assign cB) ?_
  refine S.nil ?_
  refine thenQ_n ?_
  refine AWp.wk (Wk.freeze 0 rfl rfl (.same (lk 0 rfl rfl) (.cons (lk 1 rfl rfl) rfl (.ptr .nil (by first | rfl | omega)) .nil)) (.refl _)) ?_
  refine AWp.seq ?_
  refine W.reg [0] rfl ?_
  refine S.sil 3 rfl rfl (fun _ hF => .assign cF) ?_
  refine S.nil ?_
  refine thenQ_n ?_
  refine AWp.seq ?_
  refine W.reg [0, 1, 2, 3, 4, 5, 6, 7, 8, 9, 10, 11, 12, 13, 14, 15, 16, 17, 18, 19, 20] rfl ?_
  refine S.sil 4 rfl rfl (fun _ hF => .move (lk 0 rfl rfl)) ?_
  refine S.sil 5 rfl rfl (fun _ hF => .fieldAddrC lay30 rfl rfl (lk 3 rfl rfl) rfl flL_nil) ?_
  refine S.sil 6 rfl rfl (fun _ hF => .loadC sz3 ag3 (lk 0 rfl rfl) rfl rfl) ?_
  obtain ⟨r2, m2, h⟩ := h.bnd
  refine S.sil 7 rfl rfl (fun _ hF => .callQ ent128 (lk 2 rfl rfl) (.c (lk 0 rfl rfl) (V.sub.refl _) .nil) (C_lock_Right_1 m2)) ?_
  refine S.sil 8 rfl rfl (fun _ hF => .move (lk 0 rfl rfl)) ?_
  refine S.gsil 9 4 8 true rfl rfl rfl (lk 0 rfl rfl) (fun hB _ hF => .move (lk 5 rfl rfl)) ?_
  refine S.gsil 10 4 8 true rfl rfl rfl (lk 1 rfl rfl) (fun hB _ hF => .fieldAddrC lay30 rfl rfl (lk 8 rfl rfl) rfl (flL_c (show flen _ = 1 from rfl) flL_nil)) ?_
  refine S.gsil 11 4 8 true rfl rfl rfl (lk 2 rfl rfl) (fun hB _ hF => .loadC sz3 ag3 (ifT hB (lk 0 rfl rfl)) rfl rfl) ?_
  obtain ⟨r3, m3, h⟩ := h.bnd
  refine S.gsil 12 4 8 true rfl rfl rfl (lk 3 rfl rfl) (fun hB _ hF => .callQ ent128 (ifT hB (lk 2 rfl rfl)) (.c (ifT hB (lk 0 rfl rfl)) (V.sub.refl _) .nil) (C_lock_Right_1 (gd_get m3 hB))) ?_
  refine S.sil 13 rfl rfl (fun _ hF => .pickAnd (lk 4 rfl rfl) (fun h => ifT h (lk 0 rfl rfl)) cB) ?_
  refine S.sil 14 rfl rfl (fun _ hF => .move (lk 0 rfl rfl)) ?_
  refine S.gsil 15 10 14 true rfl rfl rfl (lk 0 rfl rfl) (fun hB _ hF => .fieldAddrC lay30 rfl rfl (lk 13 rfl rfl) rfl (flL_c (show flen _ = 1 from rfl) (flL_c (show flen _ = 1 from rfl) flL_nil))) ?_
  refine S.gsil 16 10 14 true rfl rfl rfl (lk 1 rfl rfl) (fun hB _ hF => .loadC sz3 ag3 (ifT hB (lk 0 rfl rfl)) rfl rfl) ?_
  obtain ⟨r4, m4, h⟩ := h.bnd
  refine S.gsil 17 10 14 true rfl rfl rfl (lk 2 rfl rfl) (fun hB _ hF => .callQ ent129 cF (.c (ifT hB (lk 0 rfl rfl)) (V.sub.refl _) .nil) (C_lock_is (gd_get m4 hB))) ?_
  refine S.sil 18 rfl rfl (fun _ hF => .pickAnd (lk 3 rfl rfl) (fun h => ifT h (lk 0 rfl rfl)) cB) ?_
  refine S.sil 19 rfl rfl (fun _ hF => .move (lk 0 rfl rfl)) ?_
  refine S.gsil 20 15 19 true rfl rfl rfl (lk 0 rfl rfl) (fun hB _ hF => .fieldAddrC lay30 rfl rfl (lk 18 rfl rfl) rfl (flL_c (show flen _ = 1 from rfl) (flL_c (show flen _ = 1 from rfl) (flL_c (show flen _ = 1 from rfl) flL_nil)))) ?_
  refine S.gsil 21 15 19 true rfl rfl rfl (lk 1 rfl rfl) (fun hB _ hF => .loadC sz3 ag3 (ifT hB (lk 0 rfl rfl)) rfl rfl) ?_
  obtain ⟨r5, m5, h⟩ := h.bnd
  refine S.gsil 22 15 19 true rfl rfl rfl (lk 2 rfl rfl) (fun hB _ hF => .callQ ent64 cF (.c (ifT hB (lk 0 rfl rfl)) (V.sub.refl _) .nil) (C_num_Is (gd_get m5 hB))) ?_
  refine S.sil 23 rfl rfl (fun _ hF => .pickAnd (lk 3 rfl rfl) (fun h => ifT h (lk 0 rfl rfl)) cB) ?_
  obtain ⟨v6, ev6, h⟩ := h.nam
  refine S.sil 2 rfl rfl (fun _ hF => .nv (.assign (lk 0 rfl rfl)) (congrArg V.bool ev6.symm)) ?_
  refine S.nil ?_
  refine thenQ_n ?_
  refine AWp.prune (.eq (lk 0 rfl rfl) rfl .nil) ?_
  refine AWp.ret ?_
  obtain rfl := h.ret
  exact endF1 rfl (Wk.selS [] .nil rfl (SelE.leaf (lk 0 rfl rfl) rfl (.refl _) (fun m => (TyOk.bool.lt _ _)) .nil) .nil) (.tmp (lk 0 rfl rfl) rfl) rfl rfl
theorem C_field_Right {a1 : TField} {r : Bool} (h : field_Right a1 = some r) : PureC Pg 36 [E_TField a1] (V.bool r) := by
  refine PureC.ofF (CallSpec.of_bodyF 53 0 fn36 rfl rfl rfl (Nat.le_of_ble_eq_true rfl) ?_) (ltL_c (ty_TField.lt _ _) ltL_nil) (TyOk.bool.lt _ _)
  replace h := Ok.of h
  unfold field_Right at h
  refine AWp.seq ?_
  refine W.reg [0, 1] rfl ?_
  refine S.eff 1 rfl rfl (.nf (v2 := .ptr 0 [] 0) (H2 := [.cells (E_TField a1)]) (.box (lk 0 rfl rfl) rfl) rfl rfl) trivial ?_
  refine S.sil 2 rfl rfl (fun _ hF => .assign cB) ?_
  refine S.nil ?_
  refine thenQ_n ?_
  refine AWp.wk (Wk.freeze 0 rfl rfl (.same (lk 0 rfl rfl) (.cons (lk 1 rfl rfl) rfl (.ptr .nil (by first | rfl | omega)) .nil)) (.refl _)) ?_
  refine AWp.seq ?_
  refine AWp.seq ?_
  refine W.reg [0, 1, 2, 3, 4, 5, 6, 7, 8, 9, 10, 11, 12, 13, 14] rfl ?_
  refine S.sil 3 rfl rfl (fun _ hF => .fieldAddrC lay33 rfl rfl (lk 1 rfl rfl) rfl flL_nil) ?_
  refine S.sil 4 rfl rfl (fun _ hF => .loadC sz9 ag9 (lk 0 rfl rfl) rfl rfl) ?_
  obtain ⟨r2, m2, h⟩ := h.bnd
  refine S.sil 5 rfl rfl (fun _ hF => .callQ ent72 cF (.c (lk 0 rfl rfl) (V.sub.refl _) .nil) (C_field_Name m2)) ?_
  refine S.sil 6 rfl rfl (fun _ hF => .not (lk 0 rfl rfl)) ?_
  refine S.sil 7 rfl rfl (fun _ hF => .move (lk 0 rfl rfl)) ?_
  refine S.gsil 8 4 7 false rfl rfl rfl (lk 0 rfl rfl) (fun hB _ hF => .fieldAddrC lay33 rfl rfl (lk 6 rfl rfl) rfl (flL_c (show flen _ = 1 from rfl) (flL_c (show flen _ = 1 from rfl) flL_nil))) ?_
  refine S.gsil 9 4 7 false rfl rfl rfl (lk 1 rfl rfl) (fun hB _ hF => .loadC sz3 ag3 (ifT hB (lk 0 rfl rfl)) rfl rfl) ?_
  refine S.gsil 10 4 7 false rfl rfl rfl (lk 2 rfl rfl) (fun hB _ hF => .lss (ifT hB (lk 0 rfl rfl)) cI) ?_
  refine S.sil 11 rfl rfl (fun _ hF => .pickOr (lk 3 rfl rfl) cB (fun h => ifT h (lk 0 rfl rfl))) ?_
  refine S.sil 12 rfl rfl (fun _ hF => .move (lk 0 rfl rfl)) ?_
  refine S.gsil 13 9 12 false rfl rfl rfl (lk 0 rfl rfl) (fun hB _ hF => .fieldAddrC lay33 rfl rfl (lk 11 rfl rfl) rfl (flL_c (show flen _ = 1 from rfl) (flL_c (show flen _ = 1 from rfl) flL_nil))) ?_
  refine S.gsil 14 9 12 false rfl rfl rfl (lk 1 rfl rfl) (fun hB _ hF => .loadC sz3 ag3 (ifT hB (lk 0 rfl rfl)) rfl rfl) ?_
  obtain ⟨r3, m3, h⟩ := h.bnd
  refine S.gsil 15 9 12 false rfl rfl rfl (lk 2 rfl rfl) (fun hB _ hF => .callQ ent64 cF (.c (ifT hB (lk 0 rfl rfl)) (V.sub.refl _) .nil) (C_num_Is (gd_get m3 hB))) ?_
  refine S.gsil 16 9 12 false rfl rfl rfl (lk 3 rfl rfl) (fun hB _ hF => .not (ifT hB (lk 0 rfl rfl))) ?_
  refine S.sil 17 rfl rfl (fun _ hF => .pickOr (lk 4 rfl rfl) cB (fun h => ifT h (lk 0 rfl rfl))) ?_
  refine S.nil ?_
  refine thenQ_n ?_
  refine AWp.prune (.eq (lk 0 rfl rfl) rfl (.eq (lk 15 rfl rfl) rfl (.eq (lk 16 rfl rfl) rfl .nil))) ?_
  refine AWp.condM (lk 0 rfl rfl) h (fun c1 h => ?_) (fun c1 h => ?_)
  · skip
    refine AWp.seq ?_
    refine W.reg [0] rfl ?_
    refine S.sil 2 rfl rfl (fun _ hF => .assign cB) ?_
    refine S.nil ?_
    refine thenQ_n ?_
    refine AWp.ret ?_
    refine thenQ_r ?_
    obtain rfl := h.ret
    exact endF1 rfl (Wk.selS [] .nil rfl (SelE.leaf (lk 0 rfl rfl) rfl (.refl _) (fun m => (TyOk.bool.lt _ _)) .nil) .nil) (.tmp (lk 0 rfl rfl) rfl) rfl rfl
  · skip
    refine AWp.skip ?_
    refine thenQ_n ?_
    refine AWp.seq ?_
    refine AWp.seq ?_
    refine W.reg [0, 1] rfl ?_
    refine S.sil 18 rfl rfl (fun _ hF => .fieldAddrC lay33 rfl rfl (lk 2 rfl rfl) rfl (flL_c (show flen _ = 1 from rfl) flL_nil)) ?_
    refine S.sil 19 rfl rfl (fun _ hF => .loadC sz3 ag3 (lk 0 rfl rfl) rfl rfl) ?_
    refine S.nil ?_
    refine thenQ_n ?_
    refine AWp.block ?_
    refine AWp.seq ?_
    refine W.reg [0, 1] rfl ?_
    refine S.sil 21 rfl rfl (fun _ hF => .eql (lk 0 rfl rfl) cI) ?_
    refine S.sil 20 rfl rfl (fun _ hF => .assign (lk 0 rfl rfl)) ?_
    refine S.nil ?_
    refine thenQ_n ?_
    refine AWp.condM (lk 0 rfl rfl) h (fun c2 h => ?_) (fun c2 h => ?_)
    · skip
      refine AWp.seq ?_
      refine W.reg [0, 1, 2, 3, 4, 5, 6, 7, 8, 9, 10, 11, 12, 13, 14] rfl ?_
      refine S.sil 22 rfl rfl (fun _ hF => .fieldAddrC lay33 rfl rfl (lk 6 rfl rfl) rfl (flL_c (show flen _ = 1 from rfl) (flL_c (show flen _ = 1 from rfl) (flL_c (show flen _ = 1 from rfl) flL_nil)))) ?_
      refine S.sil 23 rfl rfl (fun _ hF => .loadC sz28 ag28 (lk 0 rfl rfl) (ty_TCounter.fl a1.Counter) rfl) ?_
      obtain ⟨r4, m4, h⟩ := h.bnd
      refine S.sil 24 rfl rfl (fun _ hF => .callQ ent75 cF (.c (lk 0 rfl rfl) (V.sub.refl _) .nil) (C_counter_Right m4)) ?_
      refine S.sil 25 rfl rfl (fun _ hF => .move (lk 0 rfl rfl)) ?_
      refine S.gsil 26 3 25 true rfl rfl rfl (lk 0 rfl rfl) (fun hB _ hF => .fieldAddrC lay33 rfl rfl (lk 10 rfl rfl) rfl (flL_c (show flen _ = 1 from rfl) (flL_c (show flen _ = 1 from rfl) (flL_c (show flen _ = 1 from rfl) (flL_c (ty_TCounter.fl a1.Counter) (flL_c (ty_TLock.fl a1.Lock) flL_nil)))))) ?_
      refine S.gsil 27 3 25 true rfl rfl rfl (lk 1 rfl rfl) (fun hB _ hF => .loadC sz31 ag31 (ifT hB (lk 0 rfl rfl)) rfl rfl) ?_
      obtain ⟨r5, m5, h⟩ := h.bnd
      refine S.gsil 28 3 25 true rfl rfl rfl (lk 2 rfl rfl) (fun hB _ hF => .callQ ent76 cF (.c (ifT hB (lk 0 rfl rfl)) (V.sub.refl _) .nil) (C_hold_Rights (gd_get m5 hB))) ?_
      refine S.sil 29 rfl rfl (fun _ hF => .pickAnd (lk 3 rfl rfl) (fun h => ifT h (lk 0 rfl rfl)) cB) ?_
      refine S.sil 30 rfl rfl (fun _ hF => .move (lk 0 rfl rfl)) ?_
      refine S.gsil 31 8 30 true rfl rfl rfl (lk 0 rfl rfl) (fun hB _ hF => .fieldAddrC lay33 rfl rfl (lk 15 rfl rfl) rfl (flL_c (show flen _ = 1 from rfl) (flL_c (show flen _ = 1 from rfl) (flL_c (show flen _ = 1 from rfl) (flL_c (ty_TCounter.fl a1.Counter) flL_nil))))) ?_
      refine S.gsil 32 8 30 true rfl rfl rfl (lk 1 rfl rfl) (fun hB _ hF => .loadC sz30 ag30 (ifT hB (lk 0 rfl rfl)) (ty_TLock.fl a1.Lock) rfl) ?_
      refine S.gsil 33 8 30 true rfl rfl rfl (lk 2 rfl rfl) (fun hB _ hF => .nv (v2 := E_TLock (⟨0, 0, 0, 0⟩ : TLock)) (.buildStW lay30 zv30 rfl .nil) rfl) ?_
      refine S.gsil 34 8 30 true rfl rfl rfl (lk 3 rfl rfl) (fun hB _ hF => .eqlT eqt30 eqk_TLock shk_TLock (ifT hB (lk 1 rfl rfl)) (ifT hB (lk 0 rfl rfl)) rfl rfl) ?_
      refine S.sil 35 rfl rfl (fun _ hF => .pickAnd (lk 4 rfl rfl) (fun h => ifT h (lk 0 rfl rfl)) cB) ?_
      obtain ⟨v6, ev6, h⟩ := h.nam
      refine S.sil 2 rfl rfl (fun _ hF => .nv (.assign (lk 0 rfl rfl)) (congrArg V.bool ev6.symm)) ?_
      refine S.nil ?_
      refine thenQ_n ?_
      refine AWp.prune (.eq (lk 0 rfl rfl) rfl .nil) ?_
      refine AWp.ret ?_
      refine blockQ_r ?_
      refine thenQ_r ?_
      obtain rfl := h.ret
      exact endF1 rfl (Wk.selS [] .nil rfl (SelE.leaf (lk 0 rfl rfl) rfl (.refl _) (fun m => (TyOk.bool.lt _ _)) .nil) .nil) (.tmp (lk 0 rfl rfl) rfl) rfl rfl
    · skip
      refine AWp.seq ?_
      refine W.reg [0, 1] rfl ?_
      refine S.sil 37 rfl rfl (fun _ hF => .eql (lk 2 rfl rfl) cI) ?_
      refine S.sil 36 rfl rfl (fun _ hF => .assign (lk 0 rfl rfl)) ?_
      refine S.nil ?_
      refine thenQ_n ?_
      refine AWp.condM (lk 0 rfl rfl) h (fun c3 h => ?_) (fun c3 h => ?_)
      · skip
        refine AWp.seq ?_
        refine W.reg [0, 1, 2, 3, 4, 5, 6, 7, 8, 9, 10, 11, 12, 13, 14, 15] rfl ?_
        refine S.sil 38 rfl rfl (fun _ hF => .fieldAddrC lay33 rfl rfl (lk 8 rfl rfl) rfl (flL_c (show flen _ = 1 from rfl) (flL_c (show flen _ = 1 from rfl) (flL_c (show flen _ = 1 from rfl) (flL_c (ty_TCounter.fl a1.Counter) flL_nil))))) ?_
        refine S.sil 39 rfl rfl (fun _ hF => .loadC sz30 ag30 (lk 0 rfl rfl) (ty_TLock.fl a1.Lock) rfl) ?_
        obtain ⟨r7, m7, h⟩ := h.bnd
        refine S.sil 40 rfl rfl (fun _ hF => .callQ ent77 cF (.c (lk 0 rfl rfl) (V.sub.refl _) .nil) (C_lock_Right m7)) ?_
        refine S.sil 41 rfl rfl (fun _ hF => .move (lk 0 rfl rfl)) ?_
        refine S.gsil 42 3 41 true rfl rfl rfl (lk 0 rfl rfl) (fun hB _ hF => .fieldAddrC lay33 rfl rfl (lk 12 rfl rfl) rfl (flL_c (show flen _ = 1 from rfl) (flL_c (show flen _ = 1 from rfl) (flL_c (show flen _ = 1 from rfl) (flL_c (ty_TCounter.fl a1.Counter) (flL_c (ty_TLock.fl a1.Lock) flL_nil)))))) ?_
        refine S.gsil 43 3 41 true rfl rfl rfl (lk 1 rfl rfl) (fun hB _ hF => .loadC sz31 ag31 (ifT hB (lk 0 rfl rfl)) rfl rfl) ?_
        refine S.gsil 44 3 41 true rfl rfl rfl (lk 2 rfl rfl) (fun hB _ hF => .lenT sli31 (ifT hB (lk 0 rfl rfl)) (vsub rfl (.refl _))) ?_
        refine S.gsil 45 3 41 true rfl rfl rfl (lk 3 rfl rfl) (fun hB _ hF => .eql (ifT hB (lk 0 rfl rfl)) cI) ?_
        refine S.sil 46 rfl rfl (fun _ hF => .pickAnd (lk 4 rfl rfl) (fun h => ifT h (lk 0 rfl rfl)) cB) ?_
        refine S.sil 47 rfl rfl (fun _ hF => .move (lk 0 rfl rfl)) ?_
        refine S.gsil 48 9 47 true rfl rfl rfl (lk 0 rfl rfl) (fun hB _ hF => .fieldAddrC lay33 rfl rfl (lk 18 rfl rfl) rfl (flL_c (show flen _ = 1 from rfl) (flL_c (show flen _ = 1 from rfl) (flL_c (show flen _ = 1 from rfl) flL_nil)))) ?_
        refine S.gsil 49 9 47 true rfl rfl rfl (lk 1 rfl rfl) (fun hB _ hF => .loadC sz28 ag28 (ifT hB (lk 0 rfl rfl)) (ty_TCounter.fl a1.Counter) rfl) ?_
        refine S.gsil 50 9 47 true rfl rfl rfl (lk 2 rfl rfl) (fun hB _ hF => .nv (v2 := E_TCounter (⟨0, 0, 0, (default : TRights), (default : TRights)⟩ : TCounter)) (.buildStW lay28 zv28 rfl .nil) rfl) ?_
        refine S.gsil 51 9 47 true rfl rfl rfl (lk 3 rfl rfl) (fun hB _ hF => .eqlT eqt28 eqk_TCounter shk_TCounter (ifT hB (lk 1 rfl rfl)) (ifT hB (lk 0 rfl rfl)) rfl rfl) ?_
        obtain ⟨v8, ev8, h⟩ := h.nam
        refine S.sil 52 rfl rfl (fun _ hF => .nv (.pickAnd (lk 4 rfl rfl) (fun h => ifT h (lk 0 rfl rfl)) cB) (congrArg V.bool ev8.symm)) ?_
        refine S.sil 2 rfl rfl (fun _ hF => .assign (lk 0 rfl rfl)) ?_
        refine S.nil ?_
        refine thenQ_n ?_
        refine AWp.prune (.eq (lk 0 rfl rfl) rfl .nil) ?_
        refine AWp.ret ?_
        refine blockQ_r ?_
        refine thenQ_r ?_
        obtain rfl := h.ret
        exact endF1 rfl (Wk.selS [] .nil rfl (SelE.leaf (lk 0 rfl rfl) rfl (.refl _) (fun m => (TyOk.bool.lt _ _)) .nil) .nil) (.tmp (lk 0 rfl rfl) rfl) rfl rfl
      · skip
        refine AWp.skip ?_
        refine blockQ_n ?_
        refine thenQ_n ?_
        refine AWp.seq ?_
        refine W.reg [0] rfl ?_
        refine S.sil 2 rfl rfl (fun _ hF => .assign cB) ?_
        refine S.nil ?_
        refine thenQ_n ?_
        refine AWp.ret ?_
        obtain rfl := h.ret
        exact endF1 rfl (Wk.selS [] .nil rfl (SelE.leaf (lk 0 rfl rfl) rfl (.refl _) (fun m => (TyOk.bool.lt _ _)) .nil) .nil) (.tmp (lk 0 rfl rfl) rfl) rfl rfl
theorem C_usufructlaw07_awake  {r : Bool} (h : usufructlaw07_awake = some r) : PureC Pg 29 [] (V.bool r) := by
  refine PureC.ofF (CallSpec.of_bodyF 75 0 fn29 rfl rfl rfl (Nat.le_of_ble_eq_true rfl) ?_) ltL_nil (TyOk.bool.lt _ _)
  replace h := Ok.of h
  unfold usufructlaw07_awake at h
  refine AWp.seq ?_
  refine W.reg [0] rfl ?_
  refine S.sil 0 rfl rfl (fun _ hF => .assign cB) ?_
  refine S.nil ?_
  refine thenQ_n ?_
  refine AWp.seq ?_
  refine W.reg [0, 1, 2, 3, 4, 5, 6] rfl ?_
  obtain ⟨r1, m1, h⟩ := h.bnd
  refine S.sil 15 rfl rfl (fun _ hF => .callQ ent34 cF (.c cS (V.sub.refl _) (.c cI (V.sub.refl _) (.c cI (V.sub.refl _) (.c cI (V.sub.refl _) .nil)))) (C_field_Counter m1)) ?_
  refine S.sil 14 rfl rfl (fun _ hF => .move (lk 0 rfl rfl)) ?_
  refine S.sil 16 rfl rfl (fun _ hF => .extract (lk 0 rfl rfl) rfl) ?_
  refine S.sil 17 rfl rfl (fun _ hF => .extract (lk 1 rfl rfl) rfl) ?_
  refine S.eff 1 rfl rfl (.nf (v2 := .ptr 0 [] 0) (H2 := [.cells (.st [V.str (default : ByteArray), (V.int .i64) 0, (V.int .i64) 0, E_TCounter (default : TCounter), E_TLock (default : TLock), .nils])]) (.alloc zv33) rfl rfl) trivial ?_
  refine S.effN rfl rfl (.nf (H2 := [.cells (E_TField r1.1)]) (.storeP sz33 (lk 0 rfl rfl) (lk 2 rfl rfl) rfl (.refl _) rfl .nil (by first | rfl | omega) .nil (ty_TField.fl r1.1) (fl_st (flL_c (show flen _ = 1 from rfl) (flL_c (show flen _ = 1 from rfl) (flL_c (show flen _ = 1 from rfl) (flL_c (ty_TCounter.fl (default : TCounter)) (flL_c (ty_TLock.fl (default : TLock)) (flL_c (show flen _ = 1 from rfl) flL_nil))))))) rfl) rfl rfl) trivial ?_
  refine S.sil 2 rfl rfl (fun _ hF => .assign (lk 1 rfl rfl)) ?_
  refine S.nil ?_
  refine thenQ_n ?_
  refine AWp.wk (Wk.freeze 0 rfl rfl (.same (lk 0 rfl rfl) (.cons (lk 1 rfl rfl) rfl (.ptr .nil (by first | rfl | omega)) (.same (lk 6 rfl rfl) .nil))) (.refl _)) ?_
  refine AWp.seq ?_
  refine W.reg [0, 1, 2, 3, 4, 5, 6, 7, 8, 9] rfl ?_
  refine S.sil 19 rfl rfl (fun _ hF => .loadC sz33 ag33 (lk 1 rfl rfl) (ty_TField.fl r1.1) rfl) ?_
  obtain ⟨r2, m2, h⟩ := h.bnd
  refine S.sil 20 rfl rfl (fun _ hF => .callQ ent32 cF (.c (lk 0 rfl rfl) (V.sub.refl _) (.c cI (V.sub.refl _) (.c cI (V.sub.refl _) (.c cI (V.sub.refl _) .nil)))) (C_field_Reserve m2)) ?_
  refine S.sil 18 rfl rfl (fun _ hF => .move (lk 0 rfl rfl)) ?_
  refine S.sil 21 rfl rfl (fun _ hF => .extract (lk 0 rfl rfl) rfl) ?_
  refine S.sil 22 rfl rfl (fun _ hF => .extract (lk 1 rfl rfl) rfl) ?_
  refine S.sil 23 rfl rfl (fun _ hF => .extract (lk 2 rfl rfl) rfl) ?_
  refine S.eff 3 rfl rfl (.nf (v2 := .ptr 1 [] 0) (H2 := [.dead, .cells (.st [V.str (default : ByteArray), (V.int .i64) 0, (V.int .i64) 0, E_TCounter (default : TCounter), E_TLock (default : TLock), .nils])]) (.alloc zv33) rfl rfl) trivial ?_
  refine S.effN rfl rfl (.nf (H2 := [.dead, .cells (E_TField r2.1)]) (.storeP sz33 (lk 0 rfl rfl) (lk 3 rfl rfl) rfl (.refl _) rfl .nil (by first | rfl | omega) .nil (ty_TField.fl r2.1) (fl_st (flL_c (show flen _ = 1 from rfl) (flL_c (show flen _ = 1 from rfl) (flL_c (show flen _ = 1 from rfl) (flL_c (ty_TCounter.fl (default : TCounter)) (flL_c (ty_TLock.fl (default : TLock)) (flL_c (show flen _ = 1 from rfl) flL_nil))))))) rfl) rfl rfl) trivial ?_
  refine S.sil 4 rfl rfl (fun _ hF => .assign (lk 2 rfl rfl)) ?_
  refine S.sil 5 rfl rfl (fun _ hF => .assign (lk 2 rfl rfl)) ?_
  refine S.nil ?_
  refine thenQ_n ?_
  refine AWp.wk (Wk.freeze 1 rfl rfl (.same (lk 0 rfl rfl) (.same (lk 1 rfl rfl) (.cons (lk 2 rfl rfl) rfl (.ptr .nil (by first | rfl | omega)) (.same (lk 9 rfl rfl) (.same (lk 11 rfl rfl) .nil))))) (.refl _)) ?_
  refine AWp.seq ?_
  refine W.reg [0, 1, 2, 3, 4, 5, 6, 7] rfl ?_
  refine S.sil 25 rfl rfl (fun _ hF => .loadC sz33 ag33 (lk 2 rfl rfl) (ty_TField.fl r2.1) rfl) ?_
  obtain ⟨r3, m3, h⟩ := h.bnd
  refine S.sil 26 rfl rfl (fun _ hF => .callQ ent30 cF (.c (lk 0 rfl rfl) (V.sub.refl _) (.c cI (V.sub.refl _) (.c cI (V.sub.refl _) .nil))) (C_field_Add m3)) ?_
  refine S.sil 24 rfl rfl (fun _ hF => .move (lk 0 rfl rfl)) ?_
  refine S.sil 27 rfl rfl (fun _ hF => .extract (lk 0 rfl rfl) rfl) ?_
  refine S.sil 28 rfl rfl (fun _ hF => .extract (lk 1 rfl rfl) rfl) ?_
  refine S.eff 6 rfl rfl (.nf (v2 := .ptr 2 [] 0) (H2 := [.dead, .dead, .cells (.st [V.str (default : ByteArray), (V.int .i64) 0, (V.int .i64) 0, E_TCounter (default : TCounter), E_TLock (default : TLock), .nils])]) (.alloc zv33) rfl rfl) trivial ?_
  refine S.effN rfl rfl (.nf (H2 := [.dead, .dead, .cells (E_TField r3.1)]) (.storeP sz33 (lk 0 rfl rfl) (lk 2 rfl rfl) rfl (.refl _) rfl .nil (by first | rfl | omega) .nil (ty_TField.fl r3.1) (fl_st (flL_c (show flen _ = 1 from rfl) (flL_c (show flen _ = 1 from rfl) (flL_c (show flen _ = 1 from rfl) (flL_c (ty_TCounter.fl (default : TCounter)) (flL_c (ty_TLock.fl (default : TLock)) (flL_c (show flen _ = 1 from rfl) flL_nil))))))) rfl) rfl rfl) trivial ?_
  refine S.sil 7 rfl rfl (fun _ hF => .assign (lk 1 rfl rfl)) ?_
  refine S.nil ?_
  refine thenQ_n ?_
  refine AWp.wk (Wk.freeze 2 rfl rfl (.same (lk 0 rfl rfl) (.same (lk 7 rfl rfl) (.same (lk 8 rfl rfl) (.same (lk 9 rfl rfl) (.same (lk 10 rfl rfl) (.same (lk 11 rfl rfl) .nil)))))) (.refl _)) ?_
  refine AWp.seq ?_
  refine W.reg [0, 1, 2, 3, 4, 5, 6, 7] rfl ?_
  refine S.sil 30 rfl rfl (fun _ hF => .loadC sz33 ag33 (lk 3 rfl rfl) (ty_TField.fl r2.1) rfl) ?_
  obtain ⟨r4, m4, h⟩ := h.bnd
  refine S.sil 31 rfl rfl (fun _ hF => .callQ ent30 cF (.c (lk 0 rfl rfl) (V.sub.refl _) (.c cI (V.sub.refl _) (.c cI (V.sub.refl _) .nil))) (C_field_Add m4)) ?_
  refine S.sil 29 rfl rfl (fun _ hF => .move (lk 0 rfl rfl)) ?_
  refine S.sil 32 rfl rfl (fun _ hF => .extract (lk 0 rfl rfl) rfl) ?_
  refine S.sil 33 rfl rfl (fun _ hF => .extract (lk 1 rfl rfl) rfl) ?_
  refine S.eff 8 rfl rfl (.nf (v2 := .ptr 3 [] 0) (H2 := [.dead, .dead, .dead, .cells (.st [V.str (default : ByteArray), (V.int .i64) 0, (V.int .i64) 0, E_TCounter (default : TCounter), E_TLock (default : TLock), .nils])]) (.alloc zv33) rfl rfl) trivial ?_
  refine S.effN rfl rfl (.nf (H2 := [.dead, .dead, .dead, .cells (E_TField r4.1)]) (.storeP sz33 (lk 0 rfl rfl) (lk 2 rfl rfl) rfl (.refl _) rfl .nil (by first | rfl | omega) .nil (ty_TField.fl r4.1) (fl_st (flL_c (show flen _ = 1 from rfl) (flL_c (show flen _ = 1 from rfl) (flL_c (show flen _ = 1 from rfl) (flL_c (ty_TCounter.fl (default : TCounter)) (flL_c (ty_TLock.fl (default : TLock)) (flL_c (show flen _ = 1 from rfl) flL_nil))))))) rfl) rfl rfl) trivial ?_
  refine S.sil 9 rfl rfl (fun _ hF => .assign (lk 1 rfl rfl)) ?_
  refine S.nil ?_
  refine thenQ_n ?_
  refine AWp.wk (Wk.freeze 3 rfl rfl (.same (lk 0 rfl rfl) (.cons (lk 1 rfl rfl) rfl (.ptr .nil (by first | rfl | omega)) (.same (lk 7 rfl rfl) (.same (lk 8 rfl rfl) (.same (lk 9 rfl rfl) (.same (lk 11 rfl rfl) (.same (lk 12 rfl rfl) .nil))))))) (.refl _)) ?_
  refine AWp.seq ?_
  refine W.reg [0, 1, 2, 3, 4, 5, 6, 7, 8] rfl ?_
  refine S.sil 35 rfl rfl (fun _ hF => .loadC sz33 ag33 (lk 1 rfl rfl) (ty_TField.fl r4.1) rfl) ?_
  refine S.sil 36 rfl rfl (fun _ hF => .move (lk 5 rfl rfl)) ?_
  obtain ⟨r5, m5, h⟩ := h.bnd
  refine S.sil 37 rfl rfl (fun _ hF => .callQ ent60 cF (.c (lk 1 rfl rfl) (V.sub.refl _) (.c cI (V.sub.refl _) (.c (lk 0 rfl rfl) (V.sub.refl _) (.c cI (V.sub.refl _) .nil)))) (C_field_End m5)) ?_
  refine S.sil 34 rfl rfl (fun _ hF => .move (lk 0 rfl rfl)) ?_
  refine S.sil 38 rfl rfl (fun _ hF => .extract (lk 0 rfl rfl) rfl) ?_
  refine S.sil 39 rfl rfl (fun _ hF => .extract (lk 1 rfl rfl) rfl) ?_
  refine S.eff 10 rfl rfl (.nf (v2 := .ptr 4 [] 0) (H2 := [.dead, .dead, .dead, .dead, .cells (.st [V.str (default : ByteArray), (V.int .i64) 0, (V.int .i64) 0, E_TCounter (default : TCounter), E_TLock (default : TLock), .nils])]) (.alloc zv33) rfl rfl) trivial ?_
  refine S.effN rfl rfl (.nf (H2 := [.dead, .dead, .dead, .dead, .cells (E_TField r5.1)]) (.storeP sz33 (lk 0 rfl rfl) (lk 2 rfl rfl) rfl (.refl _) rfl .nil (by first | rfl | omega) .nil (ty_TField.fl r5.1) (fl_st (flL_c (show flen _ = 1 from rfl) (flL_c (show flen _ = 1 from rfl) (flL_c (show flen _ = 1 from rfl) (flL_c (ty_TCounter.fl (default : TCounter)) (flL_c (ty_TLock.fl (default : TLock)) (flL_c (show flen _ = 1 from rfl) flL_nil))))))) rfl) rfl rfl) trivial ?_
  refine S.sil 11 rfl rfl (fun _ hF => .assign (lk 1 rfl rfl)) ?_
  refine S.nil ?_
  refine thenQ_n ?_
  refine AWp.wk (Wk.freeze 4 rfl rfl (.same (lk 0 rfl rfl) (.cons (lk 1 rfl rfl) rfl (.ptr .nil (by first | rfl | omega)) (.same (lk 8 rfl rfl) (.same (lk 10 rfl rfl) (.same (lk 11 rfl rfl) (.same (lk 13 rfl rfl) (.same (lk 14 rfl rfl) .nil))))))) (.refl _)) ?_
  refine AWp.seq ?_
  refine W.reg [0, 1, 2, 3, 4, 5, 6] rfl ?_
  refine S.sil 41 rfl rfl (fun _ hF => .loadC sz33 ag33 (lk 1 rfl rfl) (ty_TField.fl r5.1) rfl) ?_
  obtain ⟨r6, m6, h⟩ := h.bnd
  refine S.sil 42 rfl rfl (fun _ hF => .callQ ent61 cF (.c (lk 0 rfl rfl) (V.sub.refl _) .nil) (C_field_View m6)) ?_
  refine S.sil 40 rfl rfl (fun _ hF => .move (lk 0 rfl rfl)) ?_
  refine S.sil 43 rfl rfl (fun _ hF => .extract (lk 0 rfl rfl) rfl) ?_
  refine S.sil 44 rfl rfl (fun _ hF => .extract (lk 1 rfl rfl) rfl) ?_
  refine S.sil 12 rfl rfl (fun _ hF => .assign (lk 1 rfl rfl)) ?_
  refine S.sil 13 rfl rfl (fun _ hF => .assign (lk 1 rfl rfl)) ?_
  refine S.nil ?_
  refine thenQ_n ?_
  refine AWp.seq ?_
  refine W.reg [0, 1, 2, 3, 4, 5, 6, 7, 8, 9, 10, 11, 12, 13, 14, 15, 16, 17, 18, 19, 20, 21, 22, 23, 24, 25, 26, 27, 28, 29, 30] rfl ?_
  refine S.sil 45 rfl rfl (fun _ hF => .move (lk 12 rfl rfl)) ?_
  refine S.sil 46 rfl rfl (fun _ hF => .eql (lk 0 rfl rfl) cI) ?_
  refine S.sil 47 rfl rfl (fun _ hF => .move (lk 0 rfl rfl)) ?_
  refine S.gsil 48 2 47 true rfl rfl rfl (lk 0 rfl rfl) (fun hB _ hF => .move (lk 14 rfl rfl)) ?_
  refine S.gsil 49 2 47 true rfl rfl rfl (lk 1 rfl rfl) (fun hB _ hF => .eql (ifT hB (lk 0 rfl rfl)) cI) ?_
  refine S.sil 50 rfl rfl (fun _ hF => .pickAnd (lk 2 rfl rfl) (fun h => ifT h (lk 0 rfl rfl)) cB) ?_
  refine S.sil 51 rfl rfl (fun _ hF => .move (lk 0 rfl rfl)) ?_
  refine S.gsil 52 6 51 true rfl rfl rfl (lk 0 rfl rfl) (fun hB _ hF => .move (lk 17 rfl rfl)) ?_
  refine S.gsil 53 6 51 true rfl rfl rfl (lk 1 rfl rfl) (fun hB _ hF => .eql (ifT hB (lk 0 rfl rfl)) cI) ?_
  obtain ⟨v7, ev7, h⟩ := h.nam
  refine S.sil 54 rfl rfl (fun _ hF => .nv (.pickAnd (lk 2 rfl rfl) (fun h => ifT h (lk 0 rfl rfl)) cB) (congrArg V.bool ev7.symm)) ?_
  refine S.sil 55 rfl rfl (fun _ hF => .move (lk 0 rfl rfl)) ?_
  refine S.gsil 56 10 55 true rfl rfl rfl (lk 0 rfl rfl) (fun hB _ hF => .move (lk 20 rfl rfl)) ?_
  refine S.gsil 57 10 55 true rfl rfl rfl (lk 1 rfl rfl) (fun hB _ hF => .eql (ifT hB (lk 0 rfl rfl)) cI) ?_
  refine S.sil 58 rfl rfl (fun _ hF => .pickAnd (lk 2 rfl rfl) (fun h => ifT h (lk 0 rfl rfl)) cB) ?_
  refine S.sil 59 rfl rfl (fun _ hF => .move (lk 0 rfl rfl)) ?_
  refine S.gsil 60 14 59 true rfl rfl rfl (lk 0 rfl rfl) (fun hB _ hF => .move (lk 22 rfl rfl)) ?_
  refine S.gsil 61 14 59 true rfl rfl rfl (lk 1 rfl rfl) (fun hB _ hF => .eql (ifT hB (lk 0 rfl rfl)) cI) ?_
  refine S.sil 62 rfl rfl (fun _ hF => .pickAnd (lk 2 rfl rfl) (fun h => ifT h (lk 0 rfl rfl)) cB) ?_
  refine S.sil 63 rfl rfl (fun _ hF => .move (lk 0 rfl rfl)) ?_
  refine S.gsil 64 18 63 true rfl rfl rfl (lk 0 rfl rfl) (fun hB _ hF => .move (lk 20 rfl rfl)) ?_
  refine S.gsil 65 18 63 true rfl rfl rfl (lk 1 rfl rfl) (fun hB _ hF => .eql (ifT hB (lk 0 rfl rfl)) cI) ?_
  obtain ⟨v8, ev8, h⟩ := h.nam
  refine S.sil 66 rfl rfl (fun _ hF => .nv (.pickAnd (lk 2 rfl rfl) (fun h => ifT h (lk 0 rfl rfl)) cB) (congrArg V.bool ev8.symm)) ?_
  refine S.sil 67 rfl rfl (fun _ hF => .move (lk 0 rfl rfl)) ?_
  refine S.gsil 68 22 67 true rfl rfl rfl (lk 0 rfl rfl) (fun hB _ hF => .move (lk 23 rfl rfl)) ?_
  refine S.gsil 69 22 67 true rfl rfl rfl (lk 1 rfl rfl) (fun hB _ hF => .eql (ifT hB (lk 0 rfl rfl)) cI) ?_
  refine S.sil 70 rfl rfl (fun _ hF => .pickAnd (lk 2 rfl rfl) (fun h => ifT h (lk 0 rfl rfl)) cB) ?_
  refine S.sil 71 rfl rfl (fun _ hF => .move (lk 0 rfl rfl)) ?_
  refine S.gsil 72 26 71 true rfl rfl rfl (lk 0 rfl rfl) (fun hB _ hF => .loadC sz33 ag33 (lk 35 rfl rfl) (ty_TField.fl r5.1) rfl) ?_
  obtain ⟨r9, m9, h⟩ := h.bnd
  refine S.gsil 73 26 71 true rfl rfl rfl (lk 1 rfl rfl) (fun hB _ hF => .callQ ent36 cF (.c (ifT hB (lk 0 rfl rfl)) (V.sub.refl _) .nil) (C_field_Right (gd_get m9 hB))) ?_
  refine S.sil 74 rfl rfl (fun _ hF => .pickAnd (lk 2 rfl rfl) (fun h => ifT h (lk 0 rfl rfl)) cB) ?_
  obtain ⟨v10, ev10, h⟩ := h.nam
  refine S.sil 0 rfl rfl (fun _ hF => .nv (.assign (lk 0 rfl rfl)) (congrArg V.bool ev10.symm)) ?_
  refine S.nil ?_
  refine thenQ_n ?_
  refine AWp.prune (.eq (lk 0 rfl rfl) rfl .nil) ?_
  refine AWp.ret ?_
  obtain rfl := h.ret
  exact endF1 rfl (Wk.selS [] .nil rfl (SelE.leaf (lk 0 rfl rfl) rfl (.refl _) (fun m => (TyOk.bool.lt _ _)) .nil) .nil) (.tmp (lk 0 rfl rfl) rfl) rfl rfl
theorem C_lock_Write {a1 : TLock} {a2 : Int} {a3 : Int} {r : TLock × Int} (h : lock_Write a1 a2 a3 = some r) : PureC Pg 69 [E_TLock a1, (V.int .i64) a2, (V.int .i64) a3] (.tup [E_TLock r.1, (V.int .i64) r.2]) := by
  refine PureC.ofF (CallSpec.of_bodyF 34 0 fn69 rfl rfl rfl (Nat.le_of_ble_eq_true rfl) ?_) (ltL_c (ty_TLock.lt _ _) (ltL_c ((TyOk.int .i64).lt _ _) (ltL_c ((TyOk.int .i64).lt _ _) ltL_nil))) (lt_tup (ltL_c (ty_TLock.lt _ _) (ltL_c ((TyOk.int .i64).lt _ _) ltL_nil)))
  replace h := Ok.of h
  unfold lock_Write at h
  refine AWp.seq ?_
  refine W.reg [0, 1, 2] rfl ?_
  refine S.eff 3 rfl rfl (.nf (v2 := .ptr 0 [] 0) (H2 := [.cells (E_TLock a1)]) (.box (lk 0 rfl rfl) rfl) rfl rfl) trivial ?_
  refine S.eff 6 rfl rfl (.nf (v2 := .ptr 1 [] 0) (H2 := [.cells (E_TLock a1), .cells (E_TLock (default : TLock))]) (.alloc zv30) rfl rfl) trivial ?_
  refine S.sil 7 rfl rfl (fun _ hF => .assign cI) ?_
  refine S.nil ?_
  refine thenQ_n ?_
  refine AWp.seq ?_
  refine AWp.seq ?_
  refine W.reg [0, 1, 2, 3] rfl ?_
  refine S.sil 10 rfl rfl (fun _ hF => .move (lk 4 rfl rfl)) ?_
  refine S.sil 11 rfl rfl (fun _ hF => .fieldAddr lay30 rfl rfl (lk 3 rfl rfl)) ?_
  refine S.qui 12 rfl rfl (fun _ => .loadP sz3 ag3 (lk 0 rfl rfl) rfl (.st rfl (flL_c (show flen _ = 1 from rfl) (flL_c (show flen _ = 1 from rfl) flL_nil)) .nil) (by first | rfl | omega) rfl rfl) ?_
  refine S.sil 13 rfl rfl (fun _ hF => .neq (lk 2 rfl rfl) (lk 0 rfl rfl)) ?_
  refine S.nil ?_
  refine thenQ_n ?_
  refine AWp.condM (lk 0 rfl rfl) h (fun c1 h => ?_) (fun c1 h => ?_)
  · skip
    refine AWp.seq ?_
    refine W.reg [0, 1, 2] rfl ?_
    refine S.sil 14 rfl rfl (fun _ hF => .nv (v2 := E_TLock (⟨0, 0, 0, 0⟩ : TLock)) (.buildStW lay30 zv30 rfl .nil) rfl) ?_
    obtain ⟨v4, ev4, h⟩ := h.nam
    refine S.effN rfl rfl (.nf (H2 := [.cells (E_TLock a1), .cells (E_TLock v4)]) (.storeP sz30 (lk 6 rfl rfl) (lk 0 rfl rfl) rfl (.refl _) rfl .nil (by first | rfl | omega) .nil (ty_TLock.fl (⟨0, 0, 0, 0⟩ : TLock)) (ty_TLock.fl (default : TLock)) (congrArg (fun z => ([.cells (E_TLock a1), AObj.cells (E_TLock z)] : List AObj)) ev4.symm)) rfl rfl) trivial ?_
    refine S.sil 7 rfl rfl (fun _ hF => .assign cI) ?_
    refine S.nil ?_
    refine thenQ_n ?_
    refine AWp.ret ?_
    refine thenQ_r ?_
    refine endF_wk (Wk.freeze 1 rfl rfl (.same (lk 0 rfl rfl) (.same (lk 0 rfl rfl) (.cons (lk 7 rfl rfl) rfl (.ptr .nil (by first | rfl | omega)) .nil))) (.refl _)) ?_
    obtain rfl := h.ret
    exact endFN rfl (Wk.selS [] .nil rfl (SelE.leaf (lk 2 rfl rfl) rfl (.refl _) (fun m => (lt_cptr (ty_TLock.lt _ _))) (SelE.leaf (lk 0 rfl rfl) rfl (.refl _) (fun m => ((TyOk.int .i64).lt _ _)) .nil)) .nil) (.cons (.cellC sz30 ag30 (lk 0 rfl rfl) (ty_TLock.fl _) rfl) (.cons (.tmp (lk 1 rfl rfl) rfl) .nil)) rfl rfl rfl
  · skip
    refine AWp.skip ?_
    refine thenQ_n ?_
    refine AWp.seq ?_
    refine W.reg [0, 1, 2, 3, 4, 5, 6, 7] rfl ?_
    refine S.sil 16 rfl rfl (fun _ hF => .fieldAddr lay30 rfl rfl (lk 6 rfl rfl)) ?_
    refine S.qui 17 rfl rfl (fun _ => .loadP sz3 ag3 (lk 0 rfl rfl) rfl (.st rfl (flL_c (show flen _ = 1 from rfl) flL_nil) .nil) (by first | rfl | omega) rfl rfl) ?_
    obtain ⟨r5, m5, h⟩ := h.bnd
    refine S.sil 18 rfl rfl (fun _ hF => .callQ ent123 cF (.c (lk 0 rfl rfl) (V.sub.refl _) (.c cI (V.sub.refl _) .nil)) (C_num_Add m5)) ?_
    refine S.sil 15 rfl rfl (fun _ hF => .move (lk 0 rfl rfl)) ?_
    refine S.sil 19 rfl rfl (fun _ hF => .extract (lk 0 rfl rfl) rfl) ?_
    refine S.sil 20 rfl rfl (fun _ hF => .extract (lk 1 rfl rfl) rfl) ?_
    refine S.sil 8 rfl rfl (fun _ hF => .assign (lk 1 rfl rfl)) ?_
    refine S.sil 9 rfl rfl (fun _ hF => .assign (lk 1 rfl rfl)) ?_
    refine S.nil ?_
    refine thenQ_n ?_
    refine AWp.prune (.eq (lk 0 rfl rfl) rfl (.eq (lk 1 rfl rfl) rfl (.eq (lk 12 rfl rfl) rfl (.eq (lk 13 rfl rfl) rfl (.eq (lk 14 rfl rfl) rfl (.eq (lk 17 rfl rfl) rfl .nil)))))) ?_
    refine AWp.seq ?_
    refine AWp.seq ?_
    refine W.reg [0, 1, 2, 3, 4, 5, 6] rfl ?_
    refine S.sil 21 rfl rfl (fun _ hF => .move (lk 0 rfl rfl)) ?_
    refine S.sil 22 rfl rfl (fun _ hF => .neq (lk 0 rfl rfl) cI) ?_
    refine S.sil 23 rfl rfl (fun _ hF => .move (lk 0 rfl rfl)) ?_
    refine S.gsil 24 2 23 false rfl rfl rfl (lk 0 rfl rfl) (fun hB _ hF => .move (lk 8 rfl rfl)) ?_
    obtain ⟨r6, m6, h⟩ := h.bnd
    refine S.gsil 25 2 23 false rfl rfl rfl (lk 1 rfl rfl) (fun hB _ hF => .callQ ent64 cF (.c (ifT hB (lk 0 rfl rfl)) (V.sub.refl _) .nil) (C_num_Is (gd_get m6 hB))) ?_
    refine S.gsil 26 2 23 false rfl rfl rfl (lk 2 rfl rfl) (fun hB _ hF => .not (ifT hB (lk 0 rfl rfl))) ?_
    refine S.sil 27 rfl rfl (fun _ hF => .pickOr (lk 3 rfl rfl) cB (fun h => ifT h (lk 0 rfl rfl))) ?_
    refine S.nil ?_
    refine thenQ_n ?_
    refine AWp.condM (lk 0 rfl rfl) h (fun c2 h => ?_) (fun c2 h => ?_)
    · skip
      refine AWp.seq ?_
      refine W.reg [0, 1, 2] rfl ?_
      refine S.sil 28 rfl rfl (fun _ hF => .nv (v2 := E_TLock (⟨0, 0, 0, 0⟩ : TLock)) (.buildStW lay30 zv30 rfl .nil) rfl) ?_
      obtain ⟨v7, ev7, h⟩ := h.nam
      refine S.effN rfl rfl (.nf (H2 := [.cells (E_TLock a1), .cells (E_TLock v7)]) (.storeP sz30 (lk 11 rfl rfl) (lk 0 rfl rfl) rfl (.refl _) rfl .nil (by first | rfl | omega) .nil (ty_TLock.fl (⟨0, 0, 0, 0⟩ : TLock)) (ty_TLock.fl (default : TLock)) (congrArg (fun z => ([.cells (E_TLock a1), AObj.cells (E_TLock z)] : List AObj)) ev7.symm)) rfl rfl) trivial ?_
      refine S.sil 7 rfl rfl (fun _ hF => .assign cI) ?_
      refine S.nil ?_
      refine thenQ_n ?_
      refine AWp.prune (.eq (lk 0 rfl rfl) rfl (.eq (lk 10 rfl rfl) rfl (.eq (lk 12 rfl rfl) rfl (.eq (lk 13 rfl rfl) rfl (.eq (lk 14 rfl rfl) rfl .nil))))) ?_
      refine AWp.ret ?_
      refine thenQ_r ?_
      refine endF_wk (Wk.freeze 1 rfl rfl (.same (lk 0 rfl rfl) (.cons (lk 2 rfl rfl) rfl (.ptr .nil (by first | rfl | omega)) .nil)) (.refl _)) ?_
      obtain rfl := h.ret
      exact endFN rfl (Wk.selS [] .nil rfl (SelE.leaf (lk 1 rfl rfl) rfl (.refl _) (fun m => (lt_cptr (ty_TLock.lt _ _))) (SelE.leaf (lk 0 rfl rfl) rfl (.refl _) (fun m => ((TyOk.int .i64).lt _ _)) .nil)) .nil) (.cons (.cellC sz30 ag30 (lk 0 rfl rfl) (ty_TLock.fl _) rfl) (.cons (.tmp (lk 1 rfl rfl) rfl) .nil)) rfl rfl rfl
    · skip
      refine AWp.skip ?_
      refine thenQ_n ?_
      refine AWp.seq ?_
      refine W.reg [0, 1, 2, 3, 4, 5] rfl ?_
      refine S.sil 29 rfl rfl (fun _ hF => .move (lk 8 rfl rfl)) ?_
      refine S.sil 30 rfl rfl (fun _ hF => .move (lk 13 rfl rfl)) ?_
      refine S.sil 31 rfl rfl (fun _ hF => .fieldAddr lay30 rfl rfl (lk 13 rfl rfl)) ?_
      obtain ⟨v8, ev8, h⟩ := h.nam
      refine S.effN rfl rfl (.nf (H2 := [.cells (E_TLock v8), .cells (E_TLock (default : TLock))]) (.storeP sz3 (lk 0 rfl rfl) (lk 2 rfl rfl) rfl (.refl _) rfl (.st rfl (flL_c (show flen _ = 1 from rfl) flL_nil) .nil) (by first | rfl | omega) (.st rfl .nil rfl) rfl rfl (congrArg (fun z => ([AObj.cells (E_TLock z), .cells (E_TLock (default : TLock))] : List AObj)) ev8.symm)) rfl rfl) trivial ?_
      refine S.sil 32 rfl rfl (fun _ hF => .fieldAddr lay30 rfl rfl (lk 14 rfl rfl)) ?_
      obtain ⟨v9, ev9, h⟩ := h.nam
      refine S.effN rfl rfl (.nf (H2 := [.cells (E_TLock v9), .cells (E_TLock (default : TLock))]) (.storeP sz3 (lk 0 rfl rfl) (lk 2 rfl rfl) rfl (.refl _) rfl (.st rfl (flL_c (show flen _ = 1 from rfl) (flL_c (show flen _ = 1 from rfl) (flL_c (show flen _ = 1 from rfl) flL_nil))) .nil) (by first | rfl | omega) (.st rfl .nil rfl) rfl rfl (congrArg (fun z => ([AObj.cells (E_TLock z), .cells (E_TLock (default : TLock))] : List AObj)) ev9.symm)) rfl rfl) trivial ?_
      refine S.nil ?_
      refine thenQ_n ?_
      refine AWp.prune (.eq (lk 13 rfl rfl) rfl (.eq (lk 14 rfl rfl) rfl (.eq (lk 15 rfl rfl) rfl .nil))) ?_
      refine AWp.seq ?_
      refine W.reg [0, 1, 2] rfl ?_
      refine S.qui 33 rfl rfl (fun _ => .loadP sz30 ag30 (lk 2 rfl rfl) rfl .nil (by first | rfl | omega) (ty_TLock.fl v9) rfl) ?_
      refine S.effN rfl rfl (.nf (H2 := [.cells (E_TLock v9), .cells (E_TLock v9)]) (.storeP sz30 (lk 2 rfl rfl) (lk 0 rfl rfl) rfl (.refl _) rfl .nil (by first | rfl | omega) .nil (ty_TLock.fl v9) (ty_TLock.fl (default : TLock)) rfl) rfl rfl) trivial ?_
      refine S.sil 7 rfl rfl (fun _ hF => .assign cI) ?_
      refine S.nil ?_
      refine thenQ_n ?_
      refine AWp.ret ?_
      refine endF_wk (Wk.freeze 1 rfl rfl (.same (lk 0 rfl rfl) (.same (lk 0 rfl rfl) (.cons (lk 3 rfl rfl) rfl (.ptr .nil (by first | rfl | omega)) .nil))) (.refl _)) ?_
      obtain rfl := h.ret
      exact endFN rfl (Wk.selS [] .nil rfl (SelE.leaf (lk 2 rfl rfl) rfl (.refl _) (fun m => (lt_cptr (ty_TLock.lt _ _))) (SelE.leaf (lk 0 rfl rfl) rfl (.refl _) (fun m => ((TyOk.int .i64).lt _ _)) .nil)) .nil) (.cons (.cellC sz30 ag30 (lk 0 rfl rfl) (ty_TLock.fl _) rfl) (.cons (.tmp (lk 1 rfl rfl) rfl) .nil)) rfl rfl rfl
theorem C_field_Write_1 {a1 : TLock} {a2 : Int} {a3 : Int} {r : TLock × Int} (h : field_Write_1 a1 a2 a3 = some r) : PureC Pg 68 [E_TLock a1, .cptr ((V.int .i64) a2), .cptr ((V.int .i64) a3)] (.tup [E_TLock r.1, (V.int .i64) r.2]) := by
  refine PureC.ofF (CallSpec.of_bodyF 12 0 fn68 rfl rfl rfl (Nat.le_of_ble_eq_true rfl) ?_) (ltL_c (ty_TLock.lt _ _) (ltL_c (lt_cptr ((TyOk.int .i64).lt _ _)) (ltL_c (lt_cptr ((TyOk.int .i64).lt _ _)) ltL_nil))) (lt_tup (ltL_c (ty_TLock.lt _ _) (ltL_c ((TyOk.int .i64).lt _ _) ltL_nil)))
  replace h := Ok.of h
  unfold field_Write_1 at h
  refine AWp.seq ?_
  refine W.reg [0, 1, 2] rfl ?_
  refine S.eff 3 rfl rfl (.nf (v2 := .ptr 0 [] 0) (H2 := [.cells (E_TLock a1)]) (.box (lk 0 rfl rfl) rfl) rfl rfl) trivial ?_
  refine S.eff 4 rfl rfl (.nf (v2 := .ptr 1 [] 0) (H2 := [.cells (E_TLock a1), .cells (E_TLock (default : TLock))]) (.alloc zv30) rfl rfl) trivial ?_
  refine S.sil 5 rfl rfl (fun _ hF => .assign cI) ?_
  refine S.nil ?_
  refine thenQ_n ?_
  refine AWp.wk (Wk.freeze 0 rfl rfl (.same (lk 0 rfl rfl) (.same (lk 1 rfl rfl) (.cons (lk 2 rfl rfl) rfl (.ptr .nil (by first | rfl | omega)) (.same (lk 4 rfl rfl) (.same (lk 5 rfl rfl) .nil))))) (.refl _)) ?_
  refine AWp.seq ?_
  refine W.reg [0, 1, 2, 3, 4, 5, 6, 7] rfl ?_
  refine S.sil 6 rfl rfl (fun _ hF => .loadC sz30 ag30 (lk 2 rfl rfl) (ty_TLock.fl a1) rfl) ?_
  refine S.sil 7 rfl rfl (fun _ hF => .loadC sz3 ag3 (lk 4 rfl rfl) rfl rfl) ?_
  refine S.sil 8 rfl rfl (fun _ hF => .loadC sz3 ag3 (lk 6 rfl rfl) rfl rfl) ?_
  obtain ⟨r4, m4, h⟩ := h.bnd
  refine S.sil 9 rfl rfl (fun _ hF => .callQ ent69 cF (.c (lk 2 rfl rfl) (V.sub.refl _) (.c (lk 1 rfl rfl) (V.sub.refl _) (.c (lk 0 rfl rfl) (V.sub.refl _) .nil))) (C_lock_Write m4)) ?_
  refine S.sil 10 rfl rfl (fun _ hF => .extract (lk 0 rfl rfl) rfl) ?_
  refine S.sil 11 rfl rfl (fun _ hF => .extract (lk 1 rfl rfl) rfl) ?_
  refine S.effN rfl rfl (.nf (H2 := [.dead, .cells (E_TLock r4.1)]) (.storeP sz30 (lk 7 rfl rfl) (lk 1 rfl rfl) rfl (.refl _) rfl .nil (by first | rfl | omega) .nil (ty_TLock.fl r4.1) (ty_TLock.fl (default : TLock)) rfl) rfl rfl) trivial ?_
  refine S.sil 5 rfl rfl (fun _ hF => .assign (lk 0 rfl rfl)) ?_
  refine S.nil ?_
  refine thenQ_n ?_
  refine AWp.prune (.eq (lk 0 rfl rfl) rfl (.eq (lk 8 rfl rfl) rfl .nil)) ?_
  refine AWp.ret ?_
  refine endF_wk (Wk.freeze 1 rfl rfl (.same (lk 0 rfl rfl) (.cons (lk 1 rfl rfl) rfl (.ptr .nil (by first | rfl | omega)) .nil)) (.refl _)) ?_
  obtain rfl := h.ret
  exact endFN rfl (Wk.selS [] .nil rfl (SelE.leaf (lk 1 rfl rfl) rfl (.refl _) (fun m => (lt_cptr (ty_TLock.lt _ _))) (SelE.leaf (lk 0 rfl rfl) rfl (.refl _) (fun m => ((TyOk.int .i64).lt _ _)) .nil)) .nil) (.cons (.cellC sz30 ag30 (lk 0 rfl rfl) (ty_TLock.fl _) rfl) (.cons (.tmp (lk 1 rfl rfl) rfl) .nil)) rfl rfl rfl
theorem C_field_locked_Write_1 {a1 : TField} {a2 : Int} {a3 : Int} {r : TField × Int} (h : field_locked_Write_1 a1 a2 a3 = some r) : PureC Pg 67 [E_TField a1, .fn 68 [] [.cptr ((V.int .i64) a2), .cptr ((V.int .i64) a3)]] (.tup [E_TField r.1, (V.int .i64) r.2]) := by
  refine PureC.ofF (CallSpec.of_bodyF 26 0 fn67 rfl rfl rfl (Nat.le_of_ble_eq_true rfl) ?_) (ltL_c (ty_TField.lt _ _) (ltL_c (lt_fn ltL_nil (ltL_c (lt_cptr ((TyOk.int .i64).lt _ _)) (ltL_c (lt_cptr ((TyOk.int .i64).lt _ _)) ltL_nil))) ltL_nil)) (lt_tup (ltL_c (ty_TField.lt _ _) (ltL_c ((TyOk.int .i64).lt _ _) ltL_nil)))
  replace h := Ok.of h
  unfold field_locked_Write_1 at h
  refine AWp.seq ?_
  refine W.reg [0, 1, 2] rfl ?_
  refine S.eff 2 rfl rfl (.nf (v2 := .ptr 0 [] 0) (H2 := [.cells (E_TField a1)]) (.box (lk 0 rfl rfl) rfl) rfl rfl) trivial ?_
  refine S.eff 4 rfl rfl (.nf (v2 := .ptr 1 [] 0) (H2 := [.cells (E_TField a1), .cells (.st [V.str (default : ByteArray), (V.int .i64) 0, (V.int .i64) 0, E_TCounter (default : TCounter), E_TLock (default : TLock), .nils])]) (.alloc zv33) rfl rfl) trivial ?_
  refine S.sil 5 rfl rfl (fun _ hF => .assign cI) ?_
  refine S.nil ?_
  refine thenQ_n ?_
  refine AWp.seq ?_
  refine AWp.seq ?_
  refine W.reg [0, 1, 2] rfl ?_
  refine S.sil 8 rfl rfl (fun _ hF => .fieldAddr lay33 rfl rfl (lk 2 rfl rfl)) ?_
  refine S.qui 9 rfl rfl (fun _ => .loadP sz3 ag3 (lk 0 rfl rfl) rfl (.st rfl (flL_c (show flen _ = 1 from rfl) flL_nil) .nil) (by first | rfl | omega) rfl rfl) ?_
  refine S.sil 10 rfl rfl (fun _ hF => .neq (lk 0 rfl rfl) cI) ?_
  refine S.nil ?_
  refine thenQ_n ?_
  refine AWp.condM (lk 0 rfl rfl) h (fun c1 h => ?_) (fun c1 h => ?_)
  · skip
    refine AWp.seq ?_
    refine W.reg [0, 1, 2] rfl ?_
    obtain ⟨v4, ev4, h⟩ := h.nam
    refine S.sil 11 rfl rfl (fun _ hF => .nv (.vs (v := .st [V.str (default : ByteArray), (V.int .i64) 0, (V.int .i64) 0, E_TCounter (default : TCounter), E_TLock (default : TLock), .nils]) (v2 := E_TField (⟨(default : ByteArray), 0, 0, (default : TCounter), (default : TLock), ([] : List THold)⟩ : TField)) (.buildStW lay33 zv33 rfl .nil) rfl (.st (.cons (.refl _) (.cons (.refl _) (.cons (.refl _) (.cons (.refl _) (.cons (.refl _) (.cons (.nils_no _) .nil)))))))) (congrArg E_TField ev4.symm)) ?_
    refine S.effN rfl rfl (.nf (H2 := [.cells (E_TField a1), .cells (E_TField v4)]) (.storeP sz33 (lk 5 rfl rfl) (lk 0 rfl rfl) rfl (.refl _) rfl .nil (by first | rfl | omega) .nil (ty_TField.fl v4) (fl_st (flL_c (show flen _ = 1 from rfl) (flL_c (show flen _ = 1 from rfl) (flL_c (show flen _ = 1 from rfl) (flL_c (ty_TCounter.fl (default : TCounter)) (flL_c (ty_TLock.fl (default : TLock)) (flL_c (show flen _ = 1 from rfl) flL_nil))))))) rfl) rfl rfl) trivial ?_
    refine S.sil 5 rfl rfl (fun _ hF => .assign cI) ?_
    refine S.nil ?_
    refine thenQ_n ?_
    refine AWp.ret ?_
    refine thenQ_r ?_
    refine endF_wk (Wk.freeze 1 rfl rfl (.same (lk 0 rfl rfl) (.same (lk 0 rfl rfl) (.cons (lk 6 rfl rfl) rfl (.ptr .nil (by first | rfl | omega)) .nil))) (.refl _)) ?_
    obtain rfl := h.ret
    exact endFN rfl (Wk.selS [] .nil rfl (SelE.leaf (lk 2 rfl rfl) rfl (.refl _) (fun m => (lt_cptr (ty_TField.lt _ _))) (SelE.leaf (lk 0 rfl rfl) rfl (.refl _) (fun m => ((TyOk.int .i64).lt _ _)) .nil)) .nil) (.cons (.cellC sz33 ag33 (lk 0 rfl rfl) (ty_TField.fl _) rfl) (.cons (.tmp (lk 1 rfl rfl) rfl) .nil)) rfl rfl rfl
  · skip
    refine AWp.skip ?_
    refine thenQ_n ?_
    refine AWp.seq ?_
    refine W.reg [0, 1, 2, 3, 4, 5, 6, 7, 8, 9] rfl ?_
    refine S.sil 13 rfl rfl (fun _ hF => .move (lk 7 rfl rfl)) ?_
    refine S.sil 14 rfl rfl (fun _ hF => .fieldAddr lay33 rfl rfl (lk 6 rfl rfl)) ?_
    refine S.qui 15 rfl rfl (fun _ => .loadP sz30 ag30 (lk 0 rfl rfl) rfl (.st rfl (flL_c (show flen _ = 1 from rfl) (flL_c (show flen _ = 1 from rfl) (flL_c (show flen _ = 1 from rfl) (flL_c (ty_TCounter.fl a1.Counter) flL_nil)))) .nil) (by first | rfl | omega) (ty_TLock.fl a1.Lock) rfl) ?_
    obtain ⟨r5, m5, h⟩ := h.bnd
    refine S.sil 16 rfl rfl (fun _ hF => .callQ ent68 (lk 2 rfl rfl) (.c (lk 0 rfl rfl) (V.sub.refl _) (.cons (.refl _) (.cons (.refl _) .nil))) (C_field_Write_1 m5)) ?_
    refine S.sil 12 rfl rfl (fun _ hF => .move (lk 0 rfl rfl)) ?_
    refine S.sil 17 rfl rfl (fun _ hF => .extract (lk 0 rfl rfl) rfl) ?_
    refine S.sil 18 rfl rfl (fun _ hF => .extract (lk 1 rfl rfl) rfl) ?_
    refine S.eff 6 rfl rfl (.nf (v2 := .ptr 2 [] 0) (H2 := [.cells (E_TField a1), .cells (.st [V.str (default : ByteArray), (V.int .i64) 0, (V.int .i64) 0, E_TCounter (default : TCounter), E_TLock (default : TLock), .nils]), .cells (E_TLock (default : TLock))]) (.alloc zv30) rfl rfl) trivial ?_
    refine S.effN rfl rfl (.nf (H2 := [.cells (E_TField a1), .cells (.st [V.str (default : ByteArray), (V.int .i64) 0, (V.int .i64) 0, E_TCounter (default : TCounter), E_TLock (default : TLock), .nils]), .cells (E_TLock r5.1)]) (.storeP sz30 (lk 0 rfl rfl) (lk 2 rfl rfl) rfl (.refl _) rfl .nil (by first | rfl | omega) .nil (ty_TLock.fl r5.1) (ty_TLock.fl (default : TLock)) rfl) rfl rfl) trivial ?_
    refine S.sil 7 rfl rfl (fun _ hF => .assign (lk 1 rfl rfl)) ?_
    refine S.nil ?_
    refine thenQ_n ?_
    refine AWp.wk (Wk.freeze 2 rfl rfl (.same (lk 0 rfl rfl) (.cons (lk 1 rfl rfl) rfl (.ptr .nil (by first | rfl | omega)) (.same (lk 12 rfl rfl) (.same (lk 13 rfl rfl) (.same (lk 14 rfl rfl) .nil))))) (.refl _)) ?_
    refine AWp.seq ?_
    refine W.reg [0, 1, 2] rfl ?_
    refine S.sil 19 rfl rfl (fun _ hF => .loadC sz30 ag30 (lk 1 rfl rfl) (ty_TLock.fl r5.1) rfl) ?_
    refine S.sil 20 rfl rfl (fun _ hF => .fieldAddr lay33 rfl rfl (lk 5 rfl rfl)) ?_
    obtain ⟨v6, ev6, h⟩ := h.nam
    refine S.effN rfl rfl (.nf (H2 := [.cells (E_TField v6), .cells (.st [V.str (default : ByteArray), (V.int .i64) 0, (V.int .i64) 0, E_TCounter (default : TCounter), E_TLock (default : TLock), .nils]), .dead]) (.storeP sz30 (lk 0 rfl rfl) (lk 1 rfl rfl) rfl (.refl _) rfl (.st rfl (flL_c (show flen _ = 1 from rfl) (flL_c (show flen _ = 1 from rfl) (flL_c (show flen _ = 1 from rfl) (flL_c (ty_TCounter.fl a1.Counter) flL_nil)))) .nil) (by first | rfl | omega) (.st rfl .nil rfl) (ty_TLock.fl r5.1) (ty_TLock.fl a1.Lock) (congrArg (fun z => ([AObj.cells (E_TField z), .cells (.st [V.str (default : ByteArray), (V.int .i64) 0, (V.int .i64) 0, E_TCounter (default : TCounter), E_TLock (default : TLock), .nils]), .dead] : List AObj)) ev6.symm)) rfl rfl) trivial ?_
    refine S.nil ?_
    refine thenQ_n ?_
    refine AWp.seq ?_
    refine W.reg [0, 1, 2, 3, 4, 5, 6] rfl ?_
    refine S.qui 21 rfl rfl (fun _ => .loadP sz33 ag33 (lk 6 rfl rfl) rfl .nil (by first | rfl | omega) (ty_TField.fl v6) rfl) ?_
    refine S.sil 22 rfl rfl (fun _ hF => .move (lk 3 rfl rfl)) ?_
    obtain ⟨r7, m7, h⟩ := h.bnd
    refine S.sil 23 rfl rfl (fun _ hF => .callQ ent73 cF (.c (lk 1 rfl rfl) (V.sub.refl _) (.c (lk 0 rfl rfl) (V.sub.refl _) .nil)) (C_field_done m7)) ?_
    refine S.sil 24 rfl rfl (fun _ hF => .extract (lk 0 rfl rfl) rfl) ?_
    refine S.sil 25 rfl rfl (fun _ hF => .extract (lk 1 rfl rfl) rfl) ?_
    refine S.effN rfl rfl (.nf (H2 := [.cells (E_TField v6), .cells (E_TField r7.1), .dead]) (.storeP sz33 (lk 10 rfl rfl) (lk 1 rfl rfl) rfl (.refl _) rfl .nil (by first | rfl | omega) .nil (ty_TField.fl r7.1) (fl_st (flL_c (show flen _ = 1 from rfl) (flL_c (show flen _ = 1 from rfl) (flL_c (show flen _ = 1 from rfl) (flL_c (ty_TCounter.fl (default : TCounter)) (flL_c (ty_TLock.fl (default : TLock)) (flL_c (show flen _ = 1 from rfl) flL_nil))))))) rfl) rfl rfl) trivial ?_
    refine S.sil 5 rfl rfl (fun _ hF => .assign (lk 0 rfl rfl)) ?_
    refine S.nil ?_
    refine thenQ_n ?_
    refine AWp.prune (.eq (lk 0 rfl rfl) rfl (.eq (lk 11 rfl rfl) rfl .nil)) ?_
    refine AWp.ret ?_
    refine endF_wk (Wk.freeze 1 rfl rfl (.same (lk 0 rfl rfl) (.cons (lk 1 rfl rfl) rfl (.ptr .nil (by first | rfl | omega)) .nil)) (.refl _)) ?_
    obtain rfl := h.ret
    exact endFN rfl (Wk.selS [] .nil rfl (SelE.leaf (lk 1 rfl rfl) rfl (.refl _) (fun m => (lt_cptr (ty_TField.lt _ _))) (SelE.leaf (lk 0 rfl rfl) rfl (.refl _) (fun m => ((TyOk.int .i64).lt _ _)) .nil)) .nil) (.cons (.cellC sz33 ag33 (lk 0 rfl rfl) (ty_TField.fl _) rfl) (.cons (.tmp (lk 1 rfl rfl) rfl) .nil)) rfl rfl rfl
theorem C_field_Write {a1 : TField} {a2 : Int} {a3 : Int} {r : TField × Int} (h : field_Write a1 a2 a3 = some r) : PureC Pg 31 [E_TField a1, (V.int .i64) a2, (V.int .i64) a3] (.tup [E_TField r.1, (V.int .i64) r.2]) := by
  refine PureC.ofF (CallSpec.of_bodyF 13 0 fn31 rfl rfl rfl (Nat.le_of_ble_eq_true rfl) ?_) (ltL_c (ty_TField.lt _ _) (ltL_c ((TyOk.int .i64).lt _ _) (ltL_c ((TyOk.int .i64).lt _ _) ltL_nil))) (lt_tup (ltL_c (ty_TField.lt _ _) (ltL_c ((TyOk.int .i64).lt _ _) ltL_nil)))
  replace h := Ok.of h
  unfold field_Write at h
  refine AWp.seq ?_
  refine W.reg [0, 1, 2, 3, 4] rfl ?_
  refine S.eff 3 rfl rfl (.nf (v2 := .ptr 0 [] 0) (H2 := [.cells (E_TField a1)]) (.box (lk 0 rfl rfl) rfl) rfl rfl) trivial ?_
  refine S.eff 4 rfl rfl (.nf (v2 := .ptr 1 [] 0) (H2 := [.cells (E_TField a1), .cells ((V.int .i64) a2)]) (.box (lk 2 rfl rfl) rfl) rfl rfl) trivial ?_
  refine S.eff 5 rfl rfl (.nf (v2 := .ptr 2 [] 0) (H2 := [.cells (E_TField a1), .cells ((V.int .i64) a2), .cells ((V.int .i64) a3)]) (.box (lk 4 rfl rfl) rfl) rfl rfl) trivial ?_
  refine S.eff 6 rfl rfl (.nf (v2 := .ptr 3 [] 0) (H2 := [.cells (E_TField a1), .cells ((V.int .i64) a2), .cells ((V.int .i64) a3), .cells (.st [V.str (default : ByteArray), (V.int .i64) 0, (V.int .i64) 0, E_TCounter (default : TCounter), E_TLock (default : TLock), .nils])]) (.alloc zv33) rfl rfl) trivial ?_
  refine S.sil 7 rfl rfl (fun _ hF => .assign cI) ?_
  refine S.nil ?_
  refine thenQ_n ?_
  refine AWp.wk (Wk.freeze 0 rfl rfl (.same (lk 0 rfl rfl) (.same (lk 1 rfl rfl) (.same (lk 2 rfl rfl) (.same (lk 3 rfl rfl) (.cons (lk 4 rfl rfl) rfl (.ptr .nil (by first | rfl | omega)) .nil))))) (.refl _)) ?_
  refine AWp.wk (Wk.freeze 1 rfl rfl (.same (lk 0 rfl rfl) (.same (lk 1 rfl rfl) (.same (lk 2 rfl rfl) (.cons (lk 3 rfl rfl) rfl (.ptr .nil (by first | rfl | omega)) (.same (lk 4 rfl rfl) .nil))))) (.refl _)) ?_
  refine AWp.wk (Wk.freeze 2 rfl rfl (.same (lk 0 rfl rfl) (.same (lk 1 rfl rfl) (.cons (lk 2 rfl rfl) rfl (.ptr .nil (by first | rfl | omega)) (.same (lk 3 rfl rfl) (.same (lk 4 rfl rfl) .nil))))) (.refl _)) ?_
  refine AWp.seq ?_
  refine W.reg [0, 1, 2, 3, 4, 5, 6] rfl ?_
  refine S.sil 8 rfl rfl (fun _ hF => .loadC sz33 ag33 (lk 4 rfl rfl) (ty_TField.fl a1) rfl) ?_
  refine S.sil 9 rfl rfl (fun _ hF => .makeFunc rfl (mapE2 (lk 4 rfl rfl) (lk 3 rfl rfl)) rfl rfl) ?_
  obtain ⟨r4, m4, h⟩ := h.bnd
  refine S.sil 10 rfl rfl (fun _ hF => .callQ ent67 cF (.c (lk 1 rfl rfl) (V.sub.refl _) (.c (lk 0 rfl rfl) (V.sub.refl _) .nil)) (C_field_locked_Write_1 m4)) ?_
  refine S.sil 11 rfl rfl (fun _ hF => .extract (lk 0 rfl rfl) rfl) ?_
  refine S.sil 12 rfl rfl (fun _ hF => .extract (lk 1 rfl rfl) rfl) ?_
  refine S.effN rfl rfl (.nf (H2 := [.dead, .dead, .dead, .cells (E_TField r4.1)]) (.storeP sz33 (lk 6 rfl rfl) (lk 1 rfl rfl) rfl (.refl _) rfl .nil (by first | rfl | omega) .nil (ty_TField.fl r4.1) (fl_st (flL_c (show flen _ = 1 from rfl) (flL_c (show flen _ = 1 from rfl) (flL_c (show flen _ = 1 from rfl) (flL_c (ty_TCounter.fl (default : TCounter)) (flL_c (ty_TLock.fl (default : TLock)) (flL_c (show flen _ = 1 from rfl) flL_nil))))))) rfl) rfl rfl) trivial ?_
  refine S.sil 7 rfl rfl (fun _ hF => .assign (lk 0 rfl rfl)) ?_
  refine S.nil ?_
  refine thenQ_n ?_
  refine AWp.ret ?_
  refine endF_wk (Wk.freeze 3 rfl rfl (.same (lk 0 rfl rfl) (.same (lk 0 rfl rfl) (.cons (lk 7 rfl rfl) rfl (.ptr .nil (by first | rfl | omega)) .nil))) (.refl _)) ?_
  obtain rfl := h.ret
  exact endFN rfl (Wk.selS [] .nil rfl (SelE.leaf (lk 2 rfl rfl) rfl (.refl _) (fun m => (lt_cptr (ty_TField.lt _ _))) (SelE.leaf (lk 0 rfl rfl) rfl (.refl _) (fun m => ((TyOk.int .i64).lt _ _)) .nil)) .nil) (.cons (.cellC sz33 ag33 (lk 0 rfl rfl) (ty_TField.fl _) rfl) (.cons (.tmp (lk 1 rfl rfl) rfl) .nil)) rfl rfl rfl
theorem C_usufructlaw07_FieldKinds_1 {a1 : TField} {a2 : Int} {a3 : TField} {r : Bool} (h : usufructlaw07_FieldKinds_1 a1 a2 a3 = some r) : PureC Pg 33 [E_TField a1, (V.int .i64) a2, .cptr (E_TField a3)] (V.bool r) := by
  refine PureC.ofF (CallSpec.of_bodyF 47 0 fn33 rfl rfl rfl (Nat.le_of_ble_eq_true rfl) ?_) (ltL_c (ty_TField.lt _ _) (ltL_c ((TyOk.int .i64).lt _ _) (ltL_c (lt_cptr (ty_TField.lt _ _)) ltL_nil))) (TyOk.bool.lt _ _)
  replace h := Ok.of h
  unfold usufructlaw07_FieldKinds_1 at h
  refine AWp.seq ?_
  refine W.reg [0, 1] rfl ?_
  refine S.eff 3 rfl rfl (.nf (v2 := .ptr 0 [] 0) (H2 := [.cells (E_TField a1)]) (.box (lk 0 rfl rfl) rfl) rfl rfl) trivial ?_
  refine S.sil 5 rfl rfl (fun _ hF => .assign cB) ?_
  refine S.nil ?_
  refine thenQ_n ?_
  refine AWp.wk (Wk.freeze 0 rfl rfl (.same (lk 0 rfl rfl) (.cons (lk 1 rfl rfl) rfl (.ptr .nil (by first | rfl | omega)) (.same (lk 3 rfl rfl) (.same (lk 4 rfl rfl) .nil)))) (.refl _)) ?_
  refine AWp.seq ?_
  refine W.reg [0, 1, 2, 3, 4, 5, 6, 7, 8, 9, 10, 11, 12, 13, 14, 15, 16, 17, 18, 19, 20, 21, 22, 23, 24, 25, 26, 27, 28, 29, 30, 31, 32, 33, 34, 35, 36, 37, 38, 39, 40, 41] rfl ?_
  refine S.sil 6 rfl rfl (fun _ hF => .move (lk 2 rfl rfl)) ?_
  refine S.sil 7 rfl rfl (fun _ hF => .neq (lk 0 rfl rfl) cI) ?_
  refine S.sil 8 rfl rfl (fun _ hF => .move (lk 0 rfl rfl)) ?_
  refine S.gsil 9 2 8 false rfl rfl rfl (lk 0 rfl rfl) (fun hB _ hF => .fieldAddrC lay33 rfl rfl (lk 4 rfl rfl) rfl flL_nil) ?_
  refine S.gsil 10 2 8 false rfl rfl rfl (lk 1 rfl rfl) (fun hB _ hF => .loadC sz9 ag9 (ifT hB (lk 0 rfl rfl)) rfl rfl) ?_
  refine S.gsil 11 2 8 false rfl rfl rfl (lk 2 rfl rfl) (fun hB _ hF => .fieldAddrC lay33 rfl rfl (lk 8 rfl rfl) rfl flL_nil) ?_
  refine S.gsil 12 2 8 false rfl rfl rfl (lk 3 rfl rfl) (fun hB _ hF => .loadC sz9 ag9 (ifT hB (lk 0 rfl rfl)) rfl rfl) ?_
  refine S.gsil 13 2 8 false rfl rfl rfl (lk 4 rfl rfl) (fun hB _ hF => .eqlS (ifT hB (lk 2 rfl rfl)) (ifT hB (lk 0 rfl rfl))) ?_
  refine S.gsil 14 2 8 false rfl rfl rfl (lk 5 rfl rfl) (fun hB _ hF => .move (ifT hB (lk 0 rfl rfl))) ?_
  refine S.gsil2 15 8 14 true rfl rfl rfl (lk 0 rfl rfl) (fun hB _ hF => .fieldAddrC lay33 rfl rfl (lk 10 rfl rfl) rfl (flL_c (show flen _ = 1 from rfl) flL_nil)) ?_
  refine S.gsil2 16 8 14 true rfl rfl rfl (lk 1 rfl rfl) (fun hB _ hF => .loadC sz3 ag3 (ifT hB (lk 0 rfl rfl)) rfl rfl) ?_
  refine S.gsil2 17 8 14 true rfl rfl rfl (lk 2 rfl rfl) (fun hB _ hF => .fieldAddrC lay33 rfl rfl (lk 14 rfl rfl) rfl (flL_c (show flen _ = 1 from rfl) flL_nil)) ?_
  refine S.gsil2 18 8 14 true rfl rfl rfl (lk 3 rfl rfl) (fun hB _ hF => .loadC sz3 ag3 (ifT hB (lk 0 rfl rfl)) rfl rfl) ?_
  refine S.gsil2 19 8 14 true rfl rfl rfl (lk 4 rfl rfl) (fun hB _ hF => .eql (ifT hB (lk 2 rfl rfl)) (ifT hB (lk 0 rfl rfl))) ?_
  refine S.gsil 20 2 8 false rfl rfl rfl (lk 11 rfl rfl) (fun hB _ hF => .pickAnd (ifT hB (lk 5 rfl rfl)) (fun h => ifT ⟨hB, h⟩ (lk 0 rfl rfl)) cB) ?_
  refine S.gsil 21 2 8 false rfl rfl rfl (lk 12 rfl rfl) (fun hB _ hF => .move (ifT hB (lk 0 rfl rfl))) ?_
  refine S.gsil2 22 15 21 true rfl rfl rfl (lk 0 rfl rfl) (fun hB _ hF => .fieldAddrC lay33 rfl rfl (lk 17 rfl rfl) rfl (flL_c (show flen _ = 1 from rfl) (flL_c (show flen _ = 1 from rfl) flL_nil))) ?_
  refine S.gsil2 23 15 21 true rfl rfl rfl (lk 1 rfl rfl) (fun hB _ hF => .loadC sz3 ag3 (ifT hB (lk 0 rfl rfl)) rfl rfl) ?_
  refine S.gsil2 24 15 21 true rfl rfl rfl (lk 2 rfl rfl) (fun hB _ hF => .fieldAddrC lay33 rfl rfl (lk 21 rfl rfl) rfl (flL_c (show flen _ = 1 from rfl) (flL_c (show flen _ = 1 from rfl) flL_nil))) ?_
  refine S.gsil2 25 15 21 true rfl rfl rfl (lk 3 rfl rfl) (fun hB _ hF => .loadC sz3 ag3 (ifT hB (lk 0 rfl rfl)) rfl rfl) ?_
  refine S.gsil2 26 15 21 true rfl rfl rfl (lk 4 rfl rfl) (fun hB _ hF => .eql (ifT hB (lk 2 rfl rfl)) (ifT hB (lk 0 rfl rfl))) ?_
  refine S.gsil 27 2 8 false rfl rfl rfl (lk 18 rfl rfl) (fun hB _ hF => .pickAnd (ifT hB (lk 5 rfl rfl)) (fun h => ifT ⟨hB, h⟩ (lk 0 rfl rfl)) cB) ?_
  refine S.gsil 28 2 8 false rfl rfl rfl (lk 19 rfl rfl) (fun hB _ hF => .move (ifT hB (lk 0 rfl rfl))) ?_
  refine S.gsil2 29 22 28 true rfl rfl rfl (lk 0 rfl rfl) (fun hB _ hF => .fieldAddrC lay33 rfl rfl (lk 24 rfl rfl) rfl (flL_c (show flen _ = 1 from rfl) (flL_c (show flen _ = 1 from rfl) (flL_c (show flen _ = 1 from rfl) flL_nil)))) ?_
  refine S.gsil2 30 22 28 true rfl rfl rfl (lk 1 rfl rfl) (fun hB _ hF => .fieldAddrC lay28 rfl rfl (ifT hB (lk 0 rfl rfl)) rfl (flL_c (show flen _ = 1 from rfl) flL_nil)) ?_
  refine S.gsil2 31 22 28 true rfl rfl rfl (lk 2 rfl rfl) (fun hB _ hF => .loadC sz3 ag3 (ifT hB (lk 0 rfl rfl)) rfl rfl) ?_
  refine S.gsil2 32 22 28 true rfl rfl rfl (lk 3 rfl rfl) (fun hB _ hF => .fieldAddrC lay33 rfl rfl (lk 29 rfl rfl) rfl (flL_c (show flen _ = 1 from rfl) (flL_c (show flen _ = 1 from rfl) (flL_c (show flen _ = 1 from rfl) flL_nil)))) ?_
  refine S.gsil2 33 22 28 true rfl rfl rfl (lk 4 rfl rfl) (fun hB _ hF => .fieldAddrC lay28 rfl rfl (ifT hB (lk 0 rfl rfl)) rfl (flL_c (show flen _ = 1 from rfl) flL_nil)) ?_
  refine S.gsil2 34 22 28 true rfl rfl rfl (lk 5 rfl rfl) (fun hB _ hF => .loadC sz3 ag3 (ifT hB (lk 0 rfl rfl)) rfl rfl) ?_
  refine S.gsil2 35 22 28 true rfl rfl rfl (lk 6 rfl rfl) (fun hB _ hF => .eql (ifT hB (lk 3 rfl rfl)) (ifT hB (lk 0 rfl rfl))) ?_
  refine S.gsil 36 2 8 false rfl rfl rfl (lk 27 rfl rfl) (fun hB _ hF => .pickAnd (ifT hB (lk 7 rfl rfl)) (fun h => ifT ⟨hB, h⟩ (lk 0 rfl rfl)) cB) ?_
  refine S.gsil 37 2 8 false rfl rfl rfl (lk 28 rfl rfl) (fun hB _ hF => .move (ifT hB (lk 0 rfl rfl))) ?_
  refine S.gsil2 38 31 37 true rfl rfl rfl (lk 0 rfl rfl) (fun hB _ hF => .fieldAddrC lay33 rfl rfl (lk 33 rfl rfl) rfl (flL_c (show flen _ = 1 from rfl) (flL_c (show flen _ = 1 from rfl) (flL_c (show flen _ = 1 from rfl) flL_nil)))) ?_
  refine S.gsil2 39 31 37 true rfl rfl rfl (lk 1 rfl rfl) (fun hB _ hF => .fieldAddrC lay28 rfl rfl (ifT hB (lk 0 rfl rfl)) rfl (flL_c (show flen _ = 1 from rfl) (flL_c (show flen _ = 1 from rfl) flL_nil))) ?_
  refine S.gsil2 40 31 37 true rfl rfl rfl (lk 2 rfl rfl) (fun hB _ hF => .loadC sz3 ag3 (ifT hB (lk 0 rfl rfl)) rfl rfl) ?_
  refine S.gsil2 41 31 37 true rfl rfl rfl (lk 3 rfl rfl) (fun hB _ hF => .fieldAddrC lay33 rfl rfl (lk 38 rfl rfl) rfl (flL_c (show flen _ = 1 from rfl) (flL_c (show flen _ = 1 from rfl) (flL_c (show flen _ = 1 from rfl) flL_nil)))) ?_
  refine S.gsil2 42 31 37 true rfl rfl rfl (lk 4 rfl rfl) (fun hB _ hF => .fieldAddrC lay28 rfl rfl (ifT hB (lk 0 rfl rfl)) rfl (flL_c (show flen _ = 1 from rfl) (flL_c (show flen _ = 1 from rfl) flL_nil))) ?_
  refine S.gsil2 43 31 37 true rfl rfl rfl (lk 5 rfl rfl) (fun hB _ hF => .loadC sz3 ag3 (ifT hB (lk 0 rfl rfl)) rfl rfl) ?_
  refine S.gsil2 44 31 37 true rfl rfl rfl (lk 6 rfl rfl) (fun hB _ hF => .eql (ifT hB (lk 3 rfl rfl)) (ifT hB (lk 0 rfl rfl))) ?_
  refine S.gsil 45 2 8 false rfl rfl rfl (lk 36 rfl rfl) (fun hB _ hF => .pickAnd (ifT hB (lk 7 rfl rfl)) (fun h => ifT ⟨hB, h⟩ (lk 0 rfl rfl)) cB) ?_
  obtain ⟨v4, ev4, h⟩ := h.nam
  refine S.sil 46 rfl rfl (fun _ hF => .nv (.pickOr (lk 37 rfl rfl) cB (fun h => ifT h (lk 0 rfl rfl))) (congrArg V.bool ev4.symm)) ?_
  refine S.sil 5 rfl rfl (fun _ hF => .assign (lk 0 rfl rfl)) ?_
  refine S.nil ?_
  refine thenQ_n ?_
  refine AWp.prune (.eq (lk 0 rfl rfl) rfl .nil) ?_
  refine AWp.ret ?_
  obtain rfl := h.ret
  exact endF1 rfl (Wk.selS [] .nil rfl (SelE.leaf (lk 0 rfl rfl) rfl (.refl _) (fun m => (TyOk.bool.lt _ _)) .nil) .nil) (.tmp (lk 0 rfl rfl) rfl) rfl rfl
theorem C_usufructlaw07_FieldKinds {a1 : TField} {a2 : Int} {a3 : Int} {a4 : Int} {r : Bool} (h : usufructlaw07_FieldKinds a1 a2 a3 a4 = some r) : PureC Pg 10 [E_TField a1, (V.int .i64) a2, (V.int .i64) a3, (V.int .i64) a4] (V.bool r) := by
  refine PureC.ofF (CallSpec.of_bodyF 126 0 fn10 rfl rfl rfl (Nat.le_of_ble_eq_true rfl) ?_) (ltL_c (ty_TField.lt _ _) (ltL_c ((TyOk.int .i64).lt _ _) (ltL_c ((TyOk.int .i64).lt _ _) (ltL_c ((TyOk.int .i64).lt _ _) ltL_nil)))) (TyOk.bool.lt _ _)
  replace h := Ok.of h
  unfold usufructlaw07_FieldKinds at h
  refine AWp.seq ?_
  refine W.reg [0, 1] rfl ?_
  refine S.eff 4 rfl rfl (.nf (v2 := .ptr 0 [] 0) (H2 := [.cells (E_TField a1)]) (.box (lk 0 rfl rfl) rfl) rfl rfl) trivial ?_
  refine S.sil 8 rfl rfl (fun _ hF => .assign cB) ?_
  refine S.nil ?_
  refine thenQ_n ?_
  refine AWp.wk (Wk.freeze 0 rfl rfl (.same (lk 0 rfl rfl) (.cons (lk 1 rfl rfl) rfl (.ptr .nil (by first | rfl | omega)) (.same (lk 3 rfl rfl) (.same (lk 4 rfl rfl) (.same (lk 5 rfl rfl) .nil))))) (.refl _)) ?_
  refine AWp.seq ?_
  refine AWp.seq ?_
  refine W.reg [0, 1, 2, 3, 4, 5, 6, 7, 8, 9, 10, 11, 12, 13, 14, 15, 16, 17, 18, 19, 20] rfl ?_
  refine S.sil 17 rfl rfl (fun _ hF => .loadC sz33 ag33 (lk 1 rfl rfl) (ty_TField.fl a1) rfl) ?_
  refine S.sil 18 rfl rfl (fun _ hF => .buildSliceW sli49 zv33 rfl rfl (by decide) (.cons (lk 0 rfl rfl) rfl (.refl _) (ty_TField.fl a1) .nil)) ?_
  obtain ⟨r5, m5, h⟩ := h.bnd
  refine S.sil 19 rfl rfl (fun _ hF => .callQ ent11 cF (.c (lk 0 rfl rfl) (vsub rfl (.forget _ _ _)) .nil) (C_usufructlaw07_Few m5)) ?_
  refine S.sil 20 rfl rfl (fun _ hF => .not (lk 0 rfl rfl)) ?_
  refine S.sil 21 rfl rfl (fun _ hF => .move (lk 0 rfl rfl)) ?_
  refine S.gsil 22 4 21 false rfl rfl rfl (lk 0 rfl rfl) (fun hB _ hF => .loadC sz33 ag33 (lk 6 rfl rfl) (ty_TField.fl a1) rfl) ?_
  obtain ⟨r6, m6, h⟩ := h.bnd
  refine S.gsil 23 4 21 false rfl rfl rfl (lk 1 rfl rfl) (fun hB _ hF => .callQ ent14 cF (.c (ifT hB (lk 0 rfl rfl)) (V.sub.refl _) .nil) (C_usufructref07_Right (gd_get m6 hB))) ?_
  refine S.gsil 24 4 21 false rfl rfl rfl (lk 2 rfl rfl) (fun hB _ hF => .not (ifT hB (lk 0 rfl rfl))) ?_
  refine S.sil 25 rfl rfl (fun _ hF => .pickOr (lk 3 rfl rfl) cB (fun h => ifT h (lk 0 rfl rfl))) ?_
  refine S.sil 26 rfl rfl (fun _ hF => .move (lk 0 rfl rfl)) ?_
  refine S.gsil 27 9 26 false rfl rfl rfl (lk 0 rfl rfl) (fun hB _ hF => .move (lk 13 rfl rfl)) ?_
  refine S.gsil 28 9 26 false rfl rfl rfl (lk 1 rfl rfl) (fun hB _ hF => .gtr (ifT hB (lk 0 rfl rfl)) cI) ?_
  refine S.sil 29 rfl rfl (fun _ hF => .pickOr (lk 2 rfl rfl) cB (fun h => ifT h (lk 0 rfl rfl))) ?_
  refine S.sil 30 rfl rfl (fun _ hF => .move (lk 0 rfl rfl)) ?_
  refine S.gsil 31 13 30 false rfl rfl rfl (lk 0 rfl rfl) (fun hB _ hF => .move (lk 18 rfl rfl)) ?_
  refine S.gsil 32 13 30 false rfl rfl rfl (lk 1 rfl rfl) (fun hB _ hF => .gtr (ifT hB (lk 0 rfl rfl)) cI) ?_
  obtain ⟨v7, ev7, h⟩ := h.nam
  refine S.sil 33 rfl rfl (fun _ hF => .nv (.pickOr (lk 2 rfl rfl) cB (fun h => ifT h (lk 0 rfl rfl))) (congrArg V.bool ev7.symm)) ?_
  refine S.sil 34 rfl rfl (fun _ hF => .move (lk 0 rfl rfl)) ?_
  refine S.gsil 35 17 34 false rfl rfl rfl (lk 0 rfl rfl) (fun hB _ hF => .move (lk 21 rfl rfl)) ?_
  refine S.gsil 36 17 34 false rfl rfl rfl (lk 1 rfl rfl) (fun hB _ hF => .lss (ifT hB (lk 0 rfl rfl)) cI) ?_
  refine S.sil 37 rfl rfl (fun _ hF => .pickOr (lk 2 rfl rfl) cB (fun h => ifT h (lk 0 rfl rfl))) ?_
  refine S.nil ?_
  refine thenQ_n ?_
  refine AWp.prune (.eq (lk 0 rfl rfl) rfl (.eq (lk 21 rfl rfl) rfl (.eq (lk 22 rfl rfl) rfl (.eq (lk 23 rfl rfl) rfl (.eq (lk 24 rfl rfl) rfl (.eq (lk 25 rfl rfl) rfl .nil)))))) ?_
  refine AWp.condM (lk 0 rfl rfl) h (fun c1 h => ?_) (fun c1 h => ?_)
  · skip
    refine AWp.seq ?_
    refine W.reg [0, 1] rfl ?_
    obtain ⟨r8, m8, h⟩ := h.bnd
    refine S.sil 38 rfl rfl (fun _ hF => .callQ ent29 cF .nil (C_usufructlaw07_awake m8)) ?_
    refine S.sil 8 rfl rfl (fun _ hF => .assign (lk 0 rfl rfl)) ?_
    refine S.nil ?_
    refine thenQ_n ?_
    refine AWp.ret ?_
    refine thenQ_r ?_
    obtain rfl := h.ret
    exact endF1 rfl (Wk.selS [] .nil rfl (SelE.leaf (lk 0 rfl rfl) rfl (.refl _) (fun m => (TyOk.bool.lt _ _)) .nil) .nil) (.tmp (lk 0 rfl rfl) rfl) rfl rfl
  · skip
    refine AWp.skip ?_
    refine thenQ_n ?_
    refine AWp.seq ?_
    refine W.reg [0, 1, 2, 3, 4, 5, 6, 7, 8, 9] rfl ?_
    refine S.sil 40 rfl rfl (fun _ hF => .loadC sz33 ag33 (lk 2 rfl rfl) (ty_TField.fl a1) rfl) ?_
    refine S.sil 41 rfl rfl (fun _ hF => .move (lk 4 rfl rfl)) ?_
    refine S.sil 42 rfl rfl (fun _ hF => .move (lk 6 rfl rfl)) ?_
    obtain ⟨r9, m9, h⟩ := h.bnd
    refine S.sil 43 rfl rfl (fun _ hF => .callQ ent30 cF (.c (lk 2 rfl rfl) (V.sub.refl _) (.c (lk 1 rfl rfl) (V.sub.refl _) (.c (lk 0 rfl rfl) (V.sub.refl _) .nil))) (C_field_Add m9)) ?_
    refine S.sil 39 rfl rfl (fun _ hF => .move (lk 0 rfl rfl)) ?_
    refine S.sil 44 rfl rfl (fun _ hF => .extract (lk 0 rfl rfl) rfl) ?_
    refine S.sil 45 rfl rfl (fun _ hF => .extract (lk 1 rfl rfl) rfl) ?_
    refine S.eff 9 rfl rfl (.nf (v2 := .ptr 1 [] 0) (H2 := [.dead, .cells (.st [V.str (default : ByteArray), (V.int .i64) 0, (V.int .i64) 0, E_TCounter (default : TCounter), E_TLock (default : TLock), .nils])]) (.alloc zv33) rfl rfl) trivial ?_
    refine S.effN rfl rfl (.nf (H2 := [.dead, .cells (E_TField r9.1)]) (.storeP sz33 (lk 0 rfl rfl) (lk 2 rfl rfl) rfl (.refl _) rfl .nil (by first | rfl | omega) .nil (ty_TField.fl r9.1) (fl_st (flL_c (show flen _ = 1 from rfl) (flL_c (show flen _ = 1 from rfl) (flL_c (show flen _ = 1 from rfl) (flL_c (ty_TCounter.fl (default : TCounter)) (flL_c (ty_TLock.fl (default : TLock)) (flL_c (show flen _ = 1 from rfl) flL_nil))))))) rfl) rfl rfl) trivial ?_
    refine S.sil 10 rfl rfl (fun _ hF => .assign (lk 1 rfl rfl)) ?_
    refine S.nil ?_
    refine thenQ_n ?_
    refine AWp.wk (Wk.freeze 1 rfl rfl (.same (lk 0 rfl rfl) (.cons (lk 1 rfl rfl) rfl (.ptr .nil (by first | rfl | omega)) (.same (lk 10 rfl rfl) (.same (lk 11 rfl rfl) (.same (lk 12 rfl rfl) (.same (lk 13 rfl rfl) (.same (lk 14 rfl rfl) .nil))))))) (.refl _)) ?_
    refine AWp.seq ?_
    refine W.reg [0, 1, 2, 3, 4, 5, 6, 7, 8, 9] rfl ?_
    refine S.sil 47 rfl rfl (fun _ hF => .loadC sz33 ag33 (lk 3 rfl rfl) (ty_TField.fl a1) rfl) ?_
    refine S.sil 48 rfl rfl (fun _ hF => .move (lk 5 rfl rfl)) ?_
    refine S.sil 49 rfl rfl (fun _ hF => .move (lk 7 rfl rfl)) ?_
    obtain ⟨r10, m10, h⟩ := h.bnd
    refine S.sil 50 rfl rfl (fun _ hF => .callQ ent31 cF (.c (lk 2 rfl rfl) (V.sub.refl _) (.c (lk 1 rfl rfl) (V.sub.refl _) (.c (lk 0 rfl rfl) (V.sub.refl _) .nil))) (C_field_Write m10)) ?_
    refine S.sil 46 rfl rfl (fun _ hF => .move (lk 0 rfl rfl)) ?_
    refine S.sil 51 rfl rfl (fun _ hF => .extract (lk 0 rfl rfl) rfl) ?_
    refine S.sil 52 rfl rfl (fun _ hF => .extract (lk 1 rfl rfl) rfl) ?_
    refine S.eff 11 rfl rfl (.nf (v2 := .ptr 2 [] 0) (H2 := [.dead, .dead, .cells (.st [V.str (default : ByteArray), (V.int .i64) 0, (V.int .i64) 0, E_TCounter (default : TCounter), E_TLock (default : TLock), .nils])]) (.alloc zv33) rfl rfl) trivial ?_
    refine S.effN rfl rfl (.nf (H2 := [.dead, .dead, .cells (E_TField r10.1)]) (.storeP sz33 (lk 0 rfl rfl) (lk 2 rfl rfl) rfl (.refl _) rfl .nil (by first | rfl | omega) .nil (ty_TField.fl r10.1) (fl_st (flL_c (show flen _ = 1 from rfl) (flL_c (show flen _ = 1 from rfl) (flL_c (show flen _ = 1 from rfl) (flL_c (ty_TCounter.fl (default : TCounter)) (flL_c (ty_TLock.fl (default : TLock)) (flL_c (show flen _ = 1 from rfl) flL_nil))))))) rfl) rfl rfl) trivial ?_
    refine S.sil 12 rfl rfl (fun _ hF => .assign (lk 1 rfl rfl)) ?_
    refine S.nil ?_
    refine thenQ_n ?_
    refine AWp.wk (Wk.freeze 2 rfl rfl (.same (lk 0 rfl rfl) (.cons (lk 1 rfl rfl) rfl (.ptr .nil (by first | rfl | omega)) (.same (lk 9 rfl rfl) (.same (lk 10 rfl rfl) (.same (lk 11 rfl rfl) (.same (lk 12 rfl rfl) (.same (lk 13 rfl rfl) (.same (lk 14 rfl rfl) (.same (lk 15 rfl rfl) .nil))))))))) (.refl _)) ?_
    refine AWp.seq ?_
    refine W.reg [0, 1, 2, 3, 4, 5, 6, 7, 8, 9, 10, 11, 12] rfl ?_
    refine S.sil 54 rfl rfl (fun _ hF => .loadC sz33 ag33 (lk 5 rfl rfl) (ty_TField.fl a1) rfl) ?_
    refine S.sil 55 rfl rfl (fun _ hF => .move (lk 7 rfl rfl)) ?_
    refine S.sil 56 rfl rfl (fun _ hF => .move (lk 9 rfl rfl)) ?_
    refine S.sil 57 rfl rfl (fun _ hF => .move (lk 11 rfl rfl)) ?_
    obtain ⟨r11, m11, h⟩ := h.bnd
    refine S.sil 58 rfl rfl (fun _ hF => .callQ ent32 cF (.c (lk 3 rfl rfl) (V.sub.refl _) (.c (lk 2 rfl rfl) (V.sub.refl _) (.c (lk 1 rfl rfl) (V.sub.refl _) (.c (lk 0 rfl rfl) (V.sub.refl _) .nil)))) (C_field_Reserve m11)) ?_
    refine S.sil 53 rfl rfl (fun _ hF => .move (lk 0 rfl rfl)) ?_
    refine S.sil 59 rfl rfl (fun _ hF => .extract (lk 0 rfl rfl) rfl) ?_
    refine S.sil 60 rfl rfl (fun _ hF => .extract (lk 1 rfl rfl) rfl) ?_
    refine S.sil 61 rfl rfl (fun _ hF => .extract (lk 2 rfl rfl) rfl) ?_
    refine S.eff 13 rfl rfl (.nf (v2 := .ptr 3 [] 0) (H2 := [.dead, .dead, .dead, .cells (.st [V.str (default : ByteArray), (V.int .i64) 0, (V.int .i64) 0, E_TCounter (default : TCounter), E_TLock (default : TLock), .nils])]) (.alloc zv33) rfl rfl) trivial ?_
    refine S.effN rfl rfl (.nf (H2 := [.dead, .dead, .dead, .cells (E_TField r11.1)]) (.storeP sz33 (lk 0 rfl rfl) (lk 3 rfl rfl) rfl (.refl _) rfl .nil (by first | rfl | omega) .nil (ty_TField.fl r11.1) (fl_st (flL_c (show flen _ = 1 from rfl) (flL_c (show flen _ = 1 from rfl) (flL_c (show flen _ = 1 from rfl) (flL_c (ty_TCounter.fl (default : TCounter)) (flL_c (ty_TLock.fl (default : TLock)) (flL_c (show flen _ = 1 from rfl) flL_nil))))))) rfl) rfl rfl) trivial ?_
    refine S.sil 14 rfl rfl (fun _ hF => .assign (lk 2 rfl rfl)) ?_
    refine S.sil 15 rfl rfl (fun _ hF => .assign (lk 2 rfl rfl)) ?_
    refine S.nil ?_
    refine thenQ_n ?_
    refine AWp.wk (Wk.freeze 3 rfl rfl (.same (lk 0 rfl rfl) (.cons (lk 2 rfl rfl) rfl (.ptr .nil (by first | rfl | omega)) (.same (lk 12 rfl rfl) (.same (lk 13 rfl rfl) (.same (lk 14 rfl rfl) (.same (lk 15 rfl rfl) (.same (lk 16 rfl rfl) (.same (lk 17 rfl rfl) .nil)))))))) (.refl _)) ?_
    refine AWp.seq ?_
    refine AWp.seq ?_
    refine W.reg [0, 1, 2] rfl ?_
    refine S.sil 62 rfl rfl (fun _ hF => .fieldAddrC lay33 rfl rfl (lk 7 rfl rfl) rfl (flL_c (show flen _ = 1 from rfl) flL_nil)) ?_
    refine S.sil 63 rfl rfl (fun _ hF => .loadC sz3 ag3 (lk 0 rfl rfl) rfl rfl) ?_
    refine S.sil 64 rfl rfl (fun _ hF => .eql (lk 0 rfl rfl) cI) ?_
    refine S.nil ?_
    refine thenQ_n ?_
    refine AWp.condM (lk 0 rfl rfl) h (fun c2 h => ?_) (fun c2 h => ?_)
    · skip
      refine AWp.seq ?_
      refine W.reg [0, 1, 2, 3, 4, 5, 6, 7, 8, 9, 10, 11, 12, 13, 14, 15, 16, 17, 18, 19, 20, 21, 22, 23, 24, 25, 26, 27, 28, 29, 30, 31, 32, 33, 34, 35] rfl ?_
      refine S.sil 65 rfl rfl (fun _ hF => .move (lk 7 rfl rfl)) ?_
      refine S.sil 66 rfl rfl (fun _ hF => .eql (lk 0 rfl rfl) cI) ?_
      refine S.sil 67 rfl rfl (fun _ hF => .move (lk 0 rfl rfl)) ?_
      refine S.gsil 68 2 67 true rfl rfl rfl (lk 0 rfl rfl) (fun hB _ hF => .move (lk 6 rfl rfl)) ?_
      refine S.gsil 69 2 67 true rfl rfl rfl (lk 1 rfl rfl) (fun hB _ hF => .eql (ifT hB (lk 0 rfl rfl)) cI) ?_
      refine S.sil 70 rfl rfl (fun _ hF => .pickAnd (lk 2 rfl rfl) (fun h => ifT h (lk 0 rfl rfl)) cB) ?_
      refine S.sil 71 rfl rfl (fun _ hF => .move (lk 0 rfl rfl)) ?_
      refine S.gsil 72 6 71 true rfl rfl rfl (lk 0 rfl rfl) (fun hB _ hF => .move (lk 12 rfl rfl)) ?_
      refine S.gsil 73 6 71 true rfl rfl rfl (lk 1 rfl rfl) (fun hB _ hF => .neq (ifT hB (lk 0 rfl rfl)) cI) ?_
      obtain ⟨v12, ev12, h⟩ := h.nam
      refine S.sil 74 rfl rfl (fun _ hF => .nv (.pickAnd (lk 2 rfl rfl) (fun h => ifT h (lk 0 rfl rfl)) cB) (congrArg V.bool ev12.symm)) ?_
      refine S.sil 75 rfl rfl (fun _ hF => .move (lk 0 rfl rfl)) ?_
      refine S.gsil 76 10 75 true rfl rfl rfl (lk 0 rfl rfl) (fun hB _ hF => .move (lk 16 rfl rfl)) ?_
      refine S.gsil 77 10 75 true rfl rfl rfl (lk 1 rfl rfl) (fun hB _ hF => .neq (ifT hB (lk 0 rfl rfl)) cI) ?_
      refine S.gsil 78 10 75 true rfl rfl rfl (lk 2 rfl rfl) (fun hB _ hF => .move (ifT hB (lk 0 rfl rfl))) ?_
      refine S.gsil2 79 13 78 false rfl rfl rfl (lk 0 rfl rfl) (fun hB _ hF => .loadC sz33 ag33 (lk 20 rfl rfl) (ty_TField.fl r10.1) rfl) ?_
      obtain ⟨r13, m13, h⟩ := h.bnd
      refine S.gsil2 80 13 78 false rfl rfl rfl (lk 1 rfl rfl) (fun hB _ hF => .callQ ent14 cF (.c (ifT hB (lk 0 rfl rfl)) (V.sub.refl _) .nil) (C_usufructref07_Right (gd_get m13 hB))) ?_
      refine S.gsil2 81 13 78 false rfl rfl rfl (lk 2 rfl rfl) (fun hB _ hF => .move (ifT hB (lk 0 rfl rfl))) ?_
      refine S.gsil2 82 16 81 true rfl rfl rfl (lk 0 rfl rfl) (fun hB _ hF => .fieldAddrC lay33 rfl rfl (lk 23 rfl rfl) rfl flL_nil) ?_
      refine S.gsil2 83 16 81 true rfl rfl rfl (lk 1 rfl rfl) (fun hB _ hF => .loadC sz9 ag9 (ifT hB (lk 0 rfl rfl)) rfl rfl) ?_
      refine S.gsil2 84 16 81 true rfl rfl rfl (lk 2 rfl rfl) (fun hB _ hF => .fieldAddrC lay33 rfl rfl (lk 29 rfl rfl) rfl flL_nil) ?_
      refine S.gsil2 85 16 81 true rfl rfl rfl (lk 3 rfl rfl) (fun hB _ hF => .loadC sz9 ag9 (ifT hB (lk 0 rfl rfl)) rfl rfl) ?_
      refine S.gsil2 86 16 81 true rfl rfl rfl (lk 4 rfl rfl) (fun hB _ hF => .eqlS (ifT hB (lk 2 rfl rfl)) (ifT hB (lk 0 rfl rfl))) ?_
      refine S.gsil2 87 13 78 false rfl rfl rfl (lk 8 rfl rfl) (fun hB _ hF => .pickAnd (ifT hB (lk 5 rfl rfl)) (fun h => ifT ⟨hB, h⟩ (lk 0 rfl rfl)) cB) ?_
      refine S.gsil2 88 13 78 false rfl rfl rfl (lk 9 rfl rfl) (fun hB _ hF => .move (ifT hB (lk 0 rfl rfl))) ?_
      refine S.gsil2 89 23 88 true rfl rfl rfl (lk 0 rfl rfl) (fun hB _ hF => .fieldAddrC lay33 rfl rfl (lk 30 rfl rfl) rfl (flL_c (show flen _ = 1 from rfl) (flL_c (show flen _ = 1 from rfl) flL_nil))) ?_
      refine S.gsil2 90 23 88 true rfl rfl rfl (lk 1 rfl rfl) (fun hB _ hF => .loadC sz3 ag3 (ifT hB (lk 0 rfl rfl)) rfl rfl) ?_
      refine S.gsil2 91 23 88 true rfl rfl rfl (lk 2 rfl rfl) (fun hB _ hF => .fieldAddrC lay33 rfl rfl (lk 36 rfl rfl) rfl (flL_c (show flen _ = 1 from rfl) (flL_c (show flen _ = 1 from rfl) flL_nil))) ?_
      refine S.gsil2 92 23 88 true rfl rfl rfl (lk 3 rfl rfl) (fun hB _ hF => .loadC sz3 ag3 (ifT hB (lk 0 rfl rfl)) rfl rfl) ?_
      refine S.gsil2 93 23 88 true rfl rfl rfl (lk 4 rfl rfl) (fun hB _ hF => .eql (ifT hB (lk 2 rfl rfl)) (ifT hB (lk 0 rfl rfl))) ?_
      refine S.gsil2 94 13 78 false rfl rfl rfl (lk 15 rfl rfl) (fun hB _ hF => .pickAnd (ifT hB (lk 5 rfl rfl)) (fun h => ifT ⟨hB, h⟩ (lk 0 rfl rfl)) cB) ?_
      refine S.gsil 95 10 75 true rfl rfl rfl (lk 19 rfl rfl) (fun hB _ hF => .pickOr (ifT hB (lk 16 rfl rfl)) cB (fun h => ifT ⟨hB, h⟩ (lk 0 rfl rfl))) ?_
      obtain ⟨v14, ev14, h⟩ := h.nam
      refine S.sil 96 rfl rfl (fun _ hF => .nv (.pickAnd (lk 20 rfl rfl) (fun h => ifT h (lk 0 rfl rfl)) cB) (congrArg V.bool ev14.symm)) ?_
      refine S.sil 97 rfl rfl (fun _ hF => .move (lk 0 rfl rfl)) ?_
      obtain ⟨r15, m15, h⟩ := h.bnd
      refine S.gsil 98 32 97 true rfl rfl rfl (lk 0 rfl rfl) (fun hB _ hF => .callQ ent29 cF .nil (C_usufructlaw07_awake (gd_get m15 hB))) ?_
      refine S.sil 99 rfl rfl (fun _ hF => .pickAnd (lk 1 rfl rfl) (fun h => ifT h (lk 0 rfl rfl)) cB) ?_
      refine S.sil 8 rfl rfl (fun _ hF => .assign (lk 0 rfl rfl)) ?_
      refine S.nil ?_
      refine thenQ_n ?_
      refine AWp.prune (.eq (lk 0 rfl rfl) rfl (.eq (lk 39 rfl rfl) rfl (.eq (lk 40 rfl rfl) rfl (.eq (lk 41 rfl rfl) rfl (.eq (lk 43 rfl rfl) rfl (.eq (lk 44 rfl rfl) rfl (.eq (lk 46 rfl rfl) rfl .nil))))))) ?_
      refine AWp.ret ?_
      refine thenQ_r ?_
      obtain rfl := h.ret
      exact endF1 rfl (Wk.selS [] .nil rfl (SelE.leaf (lk 0 rfl rfl) rfl (.refl _) (fun m => (TyOk.bool.lt _ _)) .nil) .nil) (.tmp (lk 0 rfl rfl) rfl) rfl rfl
    · skip
      refine AWp.skip ?_
      refine thenQ_n ?_
      refine AWp.seq ?_
      refine W.reg [0, 1] rfl ?_
      refine S.sil 100 rfl rfl (fun _ hF => .makeFunc rfl (mapE1 (lk 10 rfl rfl)) rfl rfl) ?_
      refine S.sil 16 rfl rfl (fun _ hF => .assign (lk 0 rfl rfl)) ?_
      refine S.nil ?_
      refine thenQ_n ?_
      refine AWp.seq ?_
      refine W.reg [0, 1, 2, 3, 4, 5, 6, 7, 8, 9, 10, 11, 12, 13, 14, 15, 16, 17, 18, 19, 20, 21, 22, 23, 24, 25] rfl ?_
      refine S.sil 101 rfl rfl (fun _ hF => .move (lk 7 rfl rfl)) ?_
      refine S.sil 102 rfl rfl (fun _ hF => .eql (lk 0 rfl rfl) cI) ?_
      refine S.sil 103 rfl rfl (fun _ hF => .move (lk 0 rfl rfl)) ?_
      refine S.gsil 104 2 103 true rfl rfl rfl (lk 0 rfl rfl) (fun hB _ hF => .move (lk 3 rfl rfl)) ?_
      refine S.gsil 105 2 103 true rfl rfl rfl (lk 1 rfl rfl) (fun hB _ hF => .loadC sz33 ag33 (lk 14 rfl rfl) (ty_TField.fl r9.1) rfl) ?_
      refine S.gsil 106 2 103 true rfl rfl rfl (lk 2 rfl rfl) (fun hB _ hF => .move (lk 14 rfl rfl)) ?_
      obtain ⟨r16, m16, h⟩ := h.bnd
      refine S.gsil 107 2 103 true rfl rfl rfl (lk 3 rfl rfl) (fun hB _ hF => .callQ ent33 (ifT hB (lk 2 rfl rfl)) (.c (ifT hB (lk 1 rfl rfl)) (V.sub.refl _) (.c (ifT hB (lk 0 rfl rfl)) (V.sub.refl _) (.cons (.refl _) .nil))) (C_usufructlaw07_FieldKinds_1 (gd_get m16 hB))) ?_
      refine S.sil 108 rfl rfl (fun _ hF => .pickAnd (lk 4 rfl rfl) (fun h => ifT h (lk 0 rfl rfl)) cB) ?_
      refine S.sil 109 rfl rfl (fun _ hF => .move (lk 0 rfl rfl)) ?_
      refine S.gsil 110 8 109 true rfl rfl rfl (lk 0 rfl rfl) (fun hB _ hF => .move (lk 9 rfl rfl)) ?_
      refine S.gsil 111 8 109 true rfl rfl rfl (lk 1 rfl rfl) (fun hB _ hF => .loadC sz33 ag33 (lk 16 rfl rfl) (ty_TField.fl r11.1) rfl) ?_
      refine S.gsil 112 8 109 true rfl rfl rfl (lk 2 rfl rfl) (fun hB _ hF => .move (lk 16 rfl rfl)) ?_
      obtain ⟨r17, m17, h⟩ := h.bnd
      refine S.gsil 113 8 109 true rfl rfl rfl (lk 3 rfl rfl) (fun hB _ hF => .callQ ent33 (ifT hB (lk 2 rfl rfl)) (.c (ifT hB (lk 1 rfl rfl)) (V.sub.refl _) (.c (ifT hB (lk 0 rfl rfl)) (V.sub.refl _) (.cons (.refl _) .nil))) (C_usufructlaw07_FieldKinds_1 (gd_get m17 hB))) ?_
      refine S.sil 114 rfl rfl (fun _ hF => .pickAnd (lk 4 rfl rfl) (fun h => ifT h (lk 0 rfl rfl)) cB) ?_
      refine S.sil 115 rfl rfl (fun _ hF => .move (lk 0 rfl rfl)) ?_
      refine S.gsil 116 14 115 true rfl rfl rfl (lk 0 rfl rfl) (fun hB _ hF => .move (lk 20 rfl rfl)) ?_
      refine S.gsil 117 14 115 true rfl rfl rfl (lk 1 rfl rfl) (fun hB _ hF => .neq (ifT hB (lk 0 rfl rfl)) cI) ?_
      refine S.gsil 118 14 115 true rfl rfl rfl (lk 2 rfl rfl) (fun hB _ hF => .move (ifT hB (lk 0 rfl rfl))) ?_
      refine S.gsil2 119 17 118 false rfl rfl rfl (lk 0 rfl rfl) (fun hB _ hF => .loadC sz33 ag33 (lk 24 rfl rfl) (ty_TField.fl r11.1) rfl) ?_
      obtain ⟨r18, m18, h⟩ := h.bnd
      refine S.gsil2 120 17 118 false rfl rfl rfl (lk 1 rfl rfl) (fun hB _ hF => .callQ ent14 cF (.c (ifT hB (lk 0 rfl rfl)) (V.sub.refl _) .nil) (C_usufructref07_Right (gd_get m18 hB))) ?_
      refine S.gsil 121 14 115 true rfl rfl rfl (lk 5 rfl rfl) (fun hB _ hF => .pickOr (ifT hB (lk 2 rfl rfl)) cB (fun h => ifT ⟨hB, h⟩ (lk 0 rfl rfl))) ?_
      obtain ⟨v19, ev19, h⟩ := h.nam
      refine S.sil 122 rfl rfl (fun _ hF => .nv (.pickAnd (lk 6 rfl rfl) (fun h => ifT h (lk 0 rfl rfl)) cB) (congrArg V.bool ev19.symm)) ?_
      refine S.sil 123 rfl rfl (fun _ hF => .move (lk 0 rfl rfl)) ?_
      obtain ⟨r20, m20, h⟩ := h.bnd
      refine S.gsil 124 22 123 true rfl rfl rfl (lk 0 rfl rfl) (fun hB _ hF => .callQ ent29 cF .nil (C_usufructlaw07_awake (gd_get m20 hB))) ?_
      refine S.sil 125 rfl rfl (fun _ hF => .pickAnd (lk 1 rfl rfl) (fun h => ifT h (lk 0 rfl rfl)) cB) ?_
      refine S.sil 8 rfl rfl (fun _ hF => .assign (lk 0 rfl rfl)) ?_
      refine S.nil ?_
      refine thenQ_n ?_
      refine AWp.prune (.eq (lk 0 rfl rfl) rfl .nil) ?_
      refine AWp.ret ?_
      obtain rfl := h.ret
      exact endF1 rfl (Wk.selS [] .nil rfl (SelE.leaf (lk 0 rfl rfl) rfl (.refl _) (fun m => (TyOk.bool.lt _ _)) .nil) .nil) (.tmp (lk 0 rfl rfl) rfl) rfl rfl
end Go.Av
