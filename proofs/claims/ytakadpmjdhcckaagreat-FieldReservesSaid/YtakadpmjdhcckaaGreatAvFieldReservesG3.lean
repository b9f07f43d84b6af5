/- Each function tells what its mirror tells. -/
import Derived.Test.YtakadpmjdhcckaaGreatAvFieldReservesG2
import Derived.Test.YtakadpmjdhcckaaGreatProg
import Derived.KernelRfl
namespace Go.Av
set_option linter.unusedSectionVars false
open Go.Proofs
set_option linter.unusedVariables false
set_option linter.unusedSimpArgs false
set_option maxHeartbeats 4000000
set_option maxRecDepth 10000
theorem C_counter_Value {a1 : TCounter} {r : Int × Int} (h : counter_Value a1 = some r) : PureC Pg 61 [E_TCounter a1] (.tup [(V.int .i64) r.1, (V.int .i64) r.2]) := by
  refine PureC.ofF (CallSpec.of_bodyF 30 0 fn61 rfl rfl rfl (Nat.le_of_ble_eq_true rfl) ?_) (ltL_c (ty_TCounter.lt _ _) ltL_nil) (lt_tup (ltL_c ((TyOk.int .i64).lt _ _) (ltL_c ((TyOk.int .i64).lt _ _) ltL_nil)))
  replace h := Ok.of h
  unfold counter_Value at h
  refine AWp.seq ?_
  refine W.reg [0, 1, 2] rfl ?_
  refine S.eff 1 rfl rfl (.nf (v2 := .ptr 0 [] 0) (H2 := [.cells (E_TCounter a1)]) (.box (lk 0 rfl rfl) rfl) rfl rfl) trivial ?_
  refine S.sil 2 rfl rfl (fun _ hF => .assign cI) ?_
  refine S.sil 3 rfl rfl (fun _ hF => .assign cI) ?_
  refine S.nil ?_
  refine thenQ_n ?_
  refine AWp.wk (Wk.freeze 0 rfl rfl (.same (lk 0 rfl rfl) (.same (lk 1 rfl rfl) (.cons (lk 2 rfl rfl) rfl (.ptr .nil (by first | rfl | omega)) .nil))) (.refl _)) ?_
  refine AWp.seq ?_
  refine W.regD [0, 1, 2, 3, 4, 5, 6, 7] mixed ?_
  refine S.sil 7 rfl rfl (fun _ hF => .fieldAddrC lay38 rfl rfl (lk 2 rfl rfl) rfl flL_nil) ?_
  refine S.sil 8 rfl rfl (fun _ hF => .loadC sz3 ag3 (lk 0 rfl rfl) rfl rfl) ?_
  refine S.sil 9 rfl rfl (fun _ hF => .buildSliceW sli68 zv3 rfl rfl (by decide) (.cons (lk 0 rfl rfl) rfl (.refl _) rfl .nil)) ?_
  refine S.sil 10 rfl rfl (fun _ hF => .fieldAddrC lay38 rfl rfl (lk 5 rfl rfl) rfl (flL_c (show flen _ = 1 from rfl) (flL_c (show flen _ = 1 from rfl) (flL_c (show flen _ = 1 from rfl) (flL_c (ty_TRights.fl a1.Down) flL_nil))))) ?_
  refine S.sil 11 rfl rfl (fun _ hF => .fieldAddrC lay36 rfl rfl (lk 0 rfl rfl) rfl (flL_c (ty_A16_i64.fl a1.Up.Given) flL_nil)) ?_
  refine S.sil 12 rfl rfl (fun _ hF => .sliceArr arr33 (lk 0 rfl rfl) (by simp)) ?_
  obtain ⟨l2, m2, h⟩ := h.bnd
  refine S.new 13 rfl rfl (.appX sli68 und68 zv3 rfl (by decide) (lk 3 rfl rfl) (V.sub.refl _) (lk 0 rfl rfl) Rd.sl m2 rfl) trivial ?_
  refine S.sil 4 rfl rfl (fun _ hF => .assign (lk 0 rfl rfl)) ?_
  refine S.nilD (by kernel_rfl) ?_
  refine thenQ_n ?_
  refine AWp.seq ?_
  refine AWp.seq ?_
  refine W.reg [0, 1, 2, 3] rfl ?_
  refine S.sil 14 rfl rfl (fun _ hF => .fieldAddrC lay38 rfl rfl (lk 10 rfl rfl) rfl (flL_c (show flen _ = 1 from rfl) (flL_c (show flen _ = 1 from rfl) (flL_c (show flen _ = 1 from rfl) flL_nil)))) ?_
  refine S.sil 15 rfl rfl (fun _ hF => .fieldAddrC lay36 rfl rfl (lk 0 rfl rfl) rfl (flL_c (ty_A16_i64.fl a1.Down.Given) flL_nil)) ?_
  refine S.sil 16 rfl rfl (fun _ hF => .loadC sz33 ag33 (lk 0 rfl rfl) (ty_A16_i64.fl a1.Down.Used) rfl) ?_
  refine S.sil 17 rfl rfl (fun _ hF => .move cI) ?_
  refine S.nil ?_
  refine thenQ_n ?_
  refine AWp.prune (.eq (lk 0 rfl rfl) rfl (.eq (lk 1 rfl rfl) rfl (.eq (lk 4 rfl rfl) rfl (.eq (lk 12 rfl rfl) rfl (.eq (lk 13 rfl rfl) rfl .nil))))) ?_
  refine AWp.cutX (fun x5 => ⟨[(4, .sl 1 (.tok 0) (List.map (V.int .i64) x5)), (3, (V.int .i64) 0), (2, (V.int .i64) 0)], [.tail]⟩) nc_then h (fun q3 hq3 => ?_) (fun x5 h => ?_)
  · refine AWp.block ?_
    refine AWp.loopT (fun s4 => ⟨[(17, (V.int .i64) s4.1), (16, E_A16_i64 a1.Down.Used), (4, .sl 1 (.tok 0) (List.map (V.int .i64) s4.2)), (3, (V.int .i64) 0), (2, (V.int .i64) 0)], [.tail]⟩) hq3 (Wk.selS [1] (by decide) rfl (SelE.leaf (lk 0 rfl rfl) rfl (.refl _) (fun m => ((TyOk.int .i64).lt _ _)) (SelE.leaf (lk 1 rfl rfl) rfl (.refl _) (fun m => (ty_A16_i64.lt _ _)) (SelE.spec (lk 2 rfl rfl) rfl (.refl _) (ren_sl (TyOk.int .i64) _) (lt_sl rfl ((TyOk.int .i64).ltm _ _)) (SelE.leaf (lk 3 rfl rfl) rfl (.refl _) (fun m => ((TyOk.int .i64).lt _ _)) (SelE.leaf (lk 4 rfl rfl) rfl (.refl _) (fun m => ((TyOk.int .i64).lt _ _)) .nil))))) (.cons rfl rfl trivial .nil)) (fun _ s4 h3 => ?_)
    rw [counter_Value_L1] at h3
    refine AWp.seq ?_
    refine W.reg [0] rfl ?_
    refine S.sil 18 rfl rfl (fun _ hF => .lss (lk 0 rfl rfl) cI) ?_
    refine S.nil ?_
    refine thenQ_n ?_
    refine AWp.seq ?_
    refine AWp.condM (lk 0 rfl rfl) h3 (fun c1 h3 => ?_) (fun c1 h3 => ?_)
    · skip
      refine AWp.skip ?_
      refine thenQ_n ?_
      refine AWp.seq ?_
      refine AWp.block ?_
      refine AWp.seq ?_
      refine W.reg [0, 1] rfl ?_
      obtain ⟨k6, m6, h3⟩ := h3.bnd
      refine S.sil 19 rfl rfl (fun _ hF => .ixV arr33 (lk 2 rfl rfl) (lk 1 rfl rfl) m6 rfl) ?_
      refine S.sil 6 rfl rfl (fun _ hF => .assign (lk 0 rfl rfl)) ?_
      refine S.nil ?_
      refine thenQ_n ?_
      refine W.reg [0, 1, 2, 3, 4, 5] rfl ?_
      refine S.sil 20 rfl rfl (fun _ hF => .move (lk 5 rfl rfl)) ?_
      refine S.sil 21 rfl rfl (fun _ hF => .move (lk 1 rfl rfl)) ?_
      refine S.sil 22 rfl rfl (fun _ hF => .neg (lk 0 rfl rfl)) ?_
      refine S.sil 23 rfl rfl (fun _ hF => .buildSliceW sli68 zv3 rfl rfl (by decide) (.cons (lk 0 rfl rfl) rfl (.refl _) rfl .nil)) ?_
      obtain ⟨l7, m7, h3⟩ := h3.bnd
      refine S.eff 24 rfl rfl (.nf (v2 := .sl 1 (.tok 1) (List.map (V.int .i64) l7)) (H2 := [.dead, .tail]) (.appT sli68 und68 zv3 rfl (by decide) (lk 3 rfl rfl) rfl (lk 0 rfl rfl) Rd.sl m7 rfl) rfl rfl) trivial ?_
      refine S.sil 4 rfl rfl (fun _ hF => .assign (lk 0 rfl rfl)) ?_
      refine S.nil ?_
      refine blockQ_n ?_
      refine thenQ_n ?_
      refine W.reg [0, 1] rfl ?_
      refine S.sil 25 rfl rfl (fun _ hF => .add (lk 9 rfl rfl) cI) ?_
      refine S.sil 17 rfl rfl (fun _ hF => .move (lk 0 rfl rfl)) ?_
      refine S.nil ?_
      refine thenQ_n ?_
      exact ⟨_, h3.ret, (Wk.selS [1] (by decide) rfl (SelE.leaf (lk 0 rfl rfl) rfl (.refl _) (fun m => ((TyOk.int .i64).lt _ _)) (SelE.leaf (lk 12 rfl rfl) rfl (.refl _) (fun m => (ty_A16_i64.lt _ _)) (SelE.spec (lk 2 rfl rfl) rfl (.refl _) (ren_sl (TyOk.int .i64) _) (lt_sl rfl ((TyOk.int .i64).ltm _ _)) (SelE.leaf (lk 14 rfl rfl) rfl (.refl _) (fun m => ((TyOk.int .i64).lt _ _)) (SelE.leaf (lk 15 rfl rfl) rfl (.refl _) (fun m => ((TyOk.int .i64).lt _ _)) .nil))))) (.cons rfl rfl trivial .nil))⟩
    · skip
      refine AWp.exit ?_
      refine thenQ_x ?_
      refine thenQ_x ?_
      refine blockQ_x ?_
      refine thenQ_n ?_
      exact ⟨_, h3.ret, (Wk.selS [0] (by decide) rfl (SelE.spec (lk 3 rfl rfl) rfl (.refl _) (ren_sl (TyOk.int .i64) _) (lt_sl rfl ((TyOk.int .i64).ltm _ _)) (SelE.leaf (lk 4 rfl rfl) rfl (.refl _) (fun m => ((TyOk.int .i64).lt _ _)) (SelE.leaf (lk 5 rfl rfl) rfl (.refl _) (fun m => ((TyOk.int .i64).lt _ _)) .nil))) (.cons rfl rfl trivial .nil))⟩
  · skip
    refine thenQ_n ?_
    refine AWp.seq ?_
    refine W.reg [0, 1, 2, 3, 4, 5] rfl ?_
    refine S.sil 26 rfl rfl (fun _ hF => .move (lk 0 rfl rfl)) ?_
    obtain ⟨r8, m8, h⟩ := h.bnd
    refine S.sil 27 rfl rfl (fun _ hF => .callQ ent40 cF (.c (lk 0 rfl rfl) (vsub rfl (.forget _ _ _)) .nil) (C_num_Sum m8)) ?_
    refine S.sil 28 rfl rfl (fun _ hF => .extract (lk 0 rfl rfl) rfl) ?_
    refine S.sil 29 rfl rfl (fun _ hF => .extract (lk 1 rfl rfl) rfl) ?_
    refine S.sil 2 rfl rfl (fun _ hF => .assign (lk 1 rfl rfl)) ?_
    refine S.sil 3 rfl rfl (fun _ hF => .assign (lk 1 rfl rfl)) ?_
    refine S.nil ?_
    refine thenQ_n ?_
    refine AWp.ret ?_
    obtain rfl := h.ret
    exact endFN rfl (Wk.selS [] .nil rfl (SelE.leaf (lk 1 rfl rfl) rfl (.refl _) (fun m => ((TyOk.int .i64).lt _ _)) (SelE.leaf (lk 0 rfl rfl) rfl (.refl _) (fun m => ((TyOk.int .i64).lt _ _)) .nil)) .nil) (.cons (.tmp (lk 0 rfl rfl) rfl) (.cons (.tmp (lk 1 rfl rfl) rfl) .nil)) rfl rfl rfl
theorem C_field_View {a1 : TField} {r : Int × Int} (h : field_View a1 = some r) : PureC Pg 24 [E_TField a1] (.tup [(V.int .i64) r.1, (V.int .i64) r.2]) := by
  refine PureC.ofF (CallSpec.of_bodyF 18 0 fn24 rfl rfl rfl (Nat.le_of_ble_eq_true rfl) ?_) (ltL_c (ty_TField.lt _ _) ltL_nil) (lt_tup (ltL_c ((TyOk.int .i64).lt _ _) (ltL_c ((TyOk.int .i64).lt _ _) ltL_nil)))
  replace h := Ok.of h
  unfold field_View at h
  refine AWp.seq ?_
  refine W.reg [0, 1, 2] rfl ?_
  refine S.eff 1 rfl rfl (.nf (v2 := .ptr 0 [] 0) (H2 := [.cells (E_TField a1)]) (.box (lk 0 rfl rfl) rfl) rfl rfl) trivial ?_
  refine S.sil 2 rfl rfl (fun _ hF => .assign cI) ?_
  refine S.sil 3 rfl rfl (fun _ hF => .assign cI) ?_
  refine S.nil ?_
  refine thenQ_n ?_
  refine AWp.wk (Wk.freeze 0 rfl rfl (.same (lk 0 rfl rfl) (.same (lk 1 rfl rfl) (.cons (lk 2 rfl rfl) rfl (.ptr .nil (by first | rfl | omega)) .nil))) (.refl _)) ?_
  refine AWp.seq ?_
  refine AWp.seq ?_
  refine W.reg [0, 1] rfl ?_
  refine S.sil 4 rfl rfl (fun _ hF => .fieldAddrC lay43 rfl rfl (lk 2 rfl rfl) rfl (flL_c (show flen _ = 1 from rfl) flL_nil)) ?_
  refine S.sil 5 rfl rfl (fun _ hF => .loadC sz3 ag3 (lk 0 rfl rfl) rfl rfl) ?_
  refine S.nil ?_
  refine thenQ_n ?_
  refine AWp.block ?_
  refine AWp.seq ?_
  refine W.reg [0, 1] rfl ?_
  refine S.sil 7 rfl rfl (fun _ hF => .eql (lk 0 rfl rfl) cI) ?_
  refine S.sil 6 rfl rfl (fun _ hF => .assign (lk 0 rfl rfl)) ?_
  refine S.nil ?_
  refine thenQ_n ?_
  refine AWp.condM (lk 0 rfl rfl) h (fun c1 h => ?_) (fun c1 h => ?_)
  · skip
    refine AWp.seq ?_
    refine W.reg [0, 1, 2, 3, 4, 5, 6] rfl ?_
    refine S.sil 8 rfl rfl (fun _ hF => .fieldAddrC lay43 rfl rfl (lk 6 rfl rfl) rfl (flL_c (show flen _ = 1 from rfl) (flL_c (show flen _ = 1 from rfl) (flL_c (show flen _ = 1 from rfl) flL_nil)))) ?_
    refine S.sil 9 rfl rfl (fun _ hF => .loadC sz38 ag38 (lk 0 rfl rfl) (ty_TCounter.fl a1.Counter) rfl) ?_
    obtain ⟨r2, m2, h⟩ := h.bnd
    refine S.sil 10 rfl rfl (fun _ hF => .callQ ent61 cF (.c (lk 0 rfl rfl) (V.sub.refl _) .nil) (C_counter_Value m2)) ?_
    refine S.sil 11 rfl rfl (fun _ hF => .extract (lk 0 rfl rfl) rfl) ?_
    refine S.sil 12 rfl rfl (fun _ hF => .extract (lk 1 rfl rfl) rfl) ?_
    refine S.sil 2 rfl rfl (fun _ hF => .assign (lk 1 rfl rfl)) ?_
    refine S.sil 3 rfl rfl (fun _ hF => .assign (lk 1 rfl rfl)) ?_
    refine S.nil ?_
    refine thenQ_n ?_
    refine AWp.prune (.eq (lk 0 rfl rfl) rfl (.eq (lk 1 rfl rfl) rfl .nil)) ?_
    refine AWp.ret ?_
    refine blockQ_r ?_
    refine thenQ_r ?_
    obtain rfl := h.ret
    exact endFN rfl (Wk.selS [] .nil rfl (SelE.leaf (lk 1 rfl rfl) rfl (.refl _) (fun m => ((TyOk.int .i64).lt _ _)) (SelE.leaf (lk 0 rfl rfl) rfl (.refl _) (fun m => ((TyOk.int .i64).lt _ _)) .nil)) .nil) (.cons (.tmp (lk 0 rfl rfl) rfl) (.cons (.tmp (lk 1 rfl rfl) rfl) .nil)) rfl rfl rfl
  · skip
    refine AWp.seq ?_
    refine W.reg [0, 1] rfl ?_
    refine S.sil 14 rfl rfl (fun _ hF => .eql (lk 2 rfl rfl) cI) ?_
    refine S.sil 13 rfl rfl (fun _ hF => .assign (lk 0 rfl rfl)) ?_
    refine S.nil ?_
    refine thenQ_n ?_
    refine AWp.condM (lk 0 rfl rfl) h (fun c2 h => ?_) (fun c2 h => ?_)
    · skip
      refine AWp.seq ?_
      refine W.reg [0, 1, 2, 3, 4] rfl ?_
      refine S.sil 15 rfl rfl (fun _ hF => .fieldAddrC lay43 rfl rfl (lk 8 rfl rfl) rfl (flL_c (show flen _ = 1 from rfl) (flL_c (show flen _ = 1 from rfl) (flL_c (show flen _ = 1 from rfl) (flL_c (ty_TCounter.fl a1.Counter) flL_nil))))) ?_
      refine S.sil 16 rfl rfl (fun _ hF => .fieldAddrC lay40 rfl rfl (lk 0 rfl rfl) rfl (flL_c (show flen _ = 1 from rfl) (flL_c (show flen _ = 1 from rfl) (flL_c (show flen _ = 1 from rfl) flL_nil)))) ?_
      refine S.sil 17 rfl rfl (fun _ hF => .loadC sz3 ag3 (lk 0 rfl rfl) rfl rfl) ?_
      refine S.sil 2 rfl rfl (fun _ hF => .assign (lk 0 rfl rfl)) ?_
      refine S.sil 3 rfl rfl (fun _ hF => .assign cI) ?_
      refine S.nil ?_
      refine thenQ_n ?_
      refine AWp.prune (.eq (lk 0 rfl rfl) rfl (.eq (lk 1 rfl rfl) rfl .nil)) ?_
      refine AWp.ret ?_
      refine blockQ_r ?_
      refine thenQ_r ?_
      obtain rfl := h.ret
      exact endFN rfl (Wk.selS [] .nil rfl (SelE.leaf (lk 1 rfl rfl) rfl (.refl _) (fun m => ((TyOk.int .i64).lt _ _)) (SelE.leaf (lk 0 rfl rfl) rfl (.refl _) (fun m => ((TyOk.int .i64).lt _ _)) .nil)) .nil) (.cons (.tmp (lk 0 rfl rfl) rfl) (.cons (.tmp (lk 1 rfl rfl) rfl) .nil)) rfl rfl rfl
    · skip
      refine AWp.skip ?_
      refine blockQ_n ?_
      refine thenQ_n ?_
      refine AWp.seq ?_
      refine W.reg [0, 1] rfl ?_
      refine S.sil 2 rfl rfl (fun _ hF => .assign cI) ?_
      refine S.sil 3 rfl rfl (fun _ hF => .assign cI) ?_
      refine S.nil ?_
      refine thenQ_n ?_
      refine AWp.ret ?_
      obtain rfl := h.ret
      exact endFN rfl (Wk.selS [] .nil rfl (SelE.leaf (lk 1 rfl rfl) rfl (.refl _) (fun m => ((TyOk.int .i64).lt _ _)) (SelE.leaf (lk 0 rfl rfl) rfl (.refl _) (fun m => ((TyOk.int .i64).lt _ _)) .nil)) .nil) (.cons (.tmp (lk 0 rfl rfl) rfl) (.cons (.tmp (lk 1 rfl rfl) rfl) .nil)) rfl rfl rfl
theorem C_vec_Right {a1 : Vector Int 16} {r : Bool} (h : vec_Right a1 = some r) : PureC Pg 149 [E_A16_i64 a1] (V.bool r) := by
  refine PureC.ofF (CallSpec.of_bodyF 17 0 fn149 rfl rfl rfl (Nat.le_of_ble_eq_true rfl) ?_) (ltL_c (ty_A16_i64.lt _ _) ltL_nil) (TyOk.bool.lt _ _)
  replace h := Ok.of h
  unfold vec_Right at h
  refine AWp.seq ?_
  refine W.reg [0, 1] rfl ?_
  refine S.eff 1 rfl rfl (.nf (v2 := .ptr 0 [] 0) (H2 := [.cells (E_A16_i64 a1)]) (.box (lk 0 rfl rfl) rfl) rfl rfl) trivial ?_
  refine S.sil 2 rfl rfl (fun _ hF => .assign cB) ?_
  refine S.nil ?_
  refine thenQ_n ?_
  refine AWp.wk (Wk.freeze 0 rfl rfl (.same (lk 0 rfl rfl) (.cons (lk 1 rfl rfl) rfl (.ptr .nil (by first | rfl | omega)) .nil)) (.refl _)) ?_
  refine AWp.seq ?_
  refine AWp.seq ?_
  refine W.reg [0, 1] rfl ?_
  refine S.sil 5 rfl rfl (fun _ hF => .loadC sz33 ag33 (lk 1 rfl rfl) (ty_A16_i64.fl a1) rfl) ?_
  refine S.sil 6 rfl rfl (fun _ hF => .move cI) ?_
  refine S.nil ?_
  refine thenQ_n ?_
  refine AWp.cutL (fun x4 => ⟨[(2, V.bool false)], []⟩) nc_then h (fun q2 hq2 h => ?_) (fun x4 h => ?_)
  · refine AWp.block ?_
    refine AWp.loopT (fun s3 => ⟨[(6, (V.int .i64) s3), (5, E_A16_i64 a1), (2, V.bool false)], []⟩) hq2 (Wk.selS [] (by decide) rfl (SelE.leaf (lk 0 rfl rfl) rfl (.refl _) (fun m => ((TyOk.int .i64).lt _ _)) (SelE.leaf (lk 1 rfl rfl) rfl (.refl _) (fun m => (ty_A16_i64.lt _ _)) (SelE.leaf (lk 2 rfl rfl) rfl (.refl _) (fun m => (TyOk.bool.lt _ _)) .nil))) .nil) (fun _ s3 h2 => ?_)
    rw [vec_Right_L1] at h2
    refine AWp.seq ?_
    refine W.reg [0] rfl ?_
    refine S.sil 7 rfl rfl (fun _ hF => .lss (lk 0 rfl rfl) cI) ?_
    refine S.nil ?_
    refine thenQ_n ?_
    refine AWp.seq ?_
    refine AWp.condM (lk 0 rfl rfl) h2 (fun c1 h2 => ?_) (fun c1 h2 => ?_)
    · skip
      refine AWp.skip ?_
      refine thenQ_n ?_
      refine AWp.seq ?_
      refine AWp.block ?_
      refine AWp.seq ?_
      refine W.reg [0, 1] rfl ?_
      obtain ⟨k5, m5, h2⟩ := h2.bnd
      refine S.sil 8 rfl rfl (fun _ hF => .ixV arr33 (lk 2 rfl rfl) (lk 1 rfl rfl) m5 rfl) ?_
      refine S.sil 4 rfl rfl (fun _ hF => .assign (lk 0 rfl rfl)) ?_
      refine S.nil ?_
      refine thenQ_n ?_
      refine AWp.seq ?_
      refine W.reg [0, 1, 2, 3, 4, 5, 6] rfl ?_
      refine S.sil 9 rfl rfl (fun _ hF => .move (lk 0 rfl rfl)) ?_
      refine S.sil 10 rfl rfl (fun _ hF => .lss (lk 0 rfl rfl) cI) ?_
      refine S.sil 11 rfl rfl (fun _ hF => .move (lk 0 rfl rfl)) ?_
      refine S.gsil 12 2 11 false rfl rfl rfl (lk 0 rfl rfl) (fun hB _ hF => .move (lk 3 rfl rfl)) ?_
      obtain ⟨r6, m6, h2⟩ := h2.bnd
      refine S.gsil 13 2 11 false rfl rfl rfl (lk 1 rfl rfl) (fun hB _ hF => .callQ ent46 cF (.c (ifT hB (lk 0 rfl rfl)) (V.sub.refl _) .nil) (C_num_Is (gd_get m6 hB))) ?_
      refine S.gsil 14 2 11 false rfl rfl rfl (lk 2 rfl rfl) (fun hB _ hF => .not (ifT hB (lk 0 rfl rfl))) ?_
      refine S.sil 15 rfl rfl (fun _ hF => .pickOr (lk 3 rfl rfl) cB (fun h => ifT h (lk 0 rfl rfl))) ?_
      refine S.nil ?_
      refine thenQ_n ?_
      refine AWp.condM (lk 0 rfl rfl) h2 (fun c2 h2 => ?_) (fun c2 h2 => ?_)
      · skip
        refine AWp.seq ?_
        refine W.reg [0] rfl ?_
        refine S.sil 2 rfl rfl (fun _ hF => .assign cB) ?_
        refine S.nil ?_
        refine thenQ_n ?_
        refine AWp.ret ?_
        refine blockQ_r ?_
        refine thenQ_r ?_
        refine thenQ_r ?_
        refine blockQ_r ?_
        refine thenQ_r ?_
        refine thenQ_r ?_
        have h := Ok.inrq h h2.ret
        obtain rfl := h.ret
        exact endF1 rfl (Wk.selS [] .nil rfl (SelE.leaf (lk 0 rfl rfl) rfl (.refl _) (fun m => (TyOk.bool.lt _ _)) .nil) .nil) (.tmp (lk 0 rfl rfl) rfl) rfl rfl
      · skip
        refine AWp.skip ?_
        refine blockQ_n ?_
        refine thenQ_n ?_
        refine W.reg [0, 1] rfl ?_
        refine S.sil 16 rfl rfl (fun _ hF => .add (lk 10 rfl rfl) cI) ?_
        refine S.sil 6 rfl rfl (fun _ hF => .move (lk 0 rfl rfl)) ?_
        refine S.nil ?_
        refine thenQ_n ?_
        exact ⟨_, h2.ret, (Wk.selS [] (by decide) rfl (SelE.leaf (lk 0 rfl rfl) rfl (.refl _) (fun m => ((TyOk.int .i64).lt _ _)) (SelE.leaf (lk 13 rfl rfl) rfl (.refl _) (fun m => (ty_A16_i64.lt _ _)) (SelE.leaf (lk 14 rfl rfl) rfl (.refl _) (fun m => (TyOk.bool.lt _ _)) .nil))) .nil)⟩
    · skip
      refine AWp.exit ?_
      refine thenQ_x ?_
      refine thenQ_x ?_
      refine blockQ_x ?_
      refine thenQ_n ?_
      exact ⟨_, h2.ret, (Wk.selS [] (by decide) rfl (SelE.leaf (lk 3 rfl rfl) rfl (.refl _) (fun m => (TyOk.bool.lt _ _)) .nil) .nil)⟩
  · skip
    refine thenQ_n ?_
    refine AWp.seq ?_
    refine W.reg [0] rfl ?_
    refine S.sil 2 rfl rfl (fun _ hF => .assign cB) ?_
    refine S.nil ?_
    refine thenQ_n ?_
    refine AWp.ret ?_
    obtain rfl := h.ret
    exact endF1 rfl (Wk.selS [] .nil rfl (SelE.leaf (lk 0 rfl rfl) rfl (.refl _) (fun m => (TyOk.bool.lt _ _)) .nil) .nil) (.tmp (lk 0 rfl rfl) rfl) rfl rfl
theorem C_rights_Right {a1 : TRights} {r : Bool} (h : rights_Right a1 = some r) : PureC Pg 111 [E_TRights a1] (V.bool r) := by
  refine PureC.ofF (CallSpec.of_bodyF 31 0 fn111 rfl rfl rfl (Nat.le_of_ble_eq_true rfl) ?_) (ltL_c (ty_TRights.lt _ _) ltL_nil) (TyOk.bool.lt _ _)
  replace h := Ok.of h
  unfold rights_Right at h
  refine AWp.seq ?_
  refine W.reg [0, 1] rfl ?_
  refine S.eff 1 rfl rfl (.nf (v2 := .ptr 0 [] 0) (H2 := [.cells (E_TRights a1)]) (.box (lk 0 rfl rfl) rfl) rfl rfl) trivial ?_
  refine S.sil 2 rfl rfl (fun _ hF => .assign cB) ?_
  refine S.nil ?_
  refine thenQ_n ?_
  refine AWp.wk (Wk.freeze 0 rfl rfl (.same (lk 0 rfl rfl) (.cons (lk 1 rfl rfl) rfl (.ptr .nil (by first | rfl | omega)) .nil)) (.refl _)) ?_
  refine AWp.seq ?_
  refine AWp.seq ?_
  refine W.reg [0, 1, 2, 3, 4, 5, 6, 7, 8, 9] rfl ?_
  refine S.sil 5 rfl rfl (fun _ hF => .fieldAddrC lay36 rfl rfl (lk 1 rfl rfl) rfl flL_nil) ?_
  refine S.sil 6 rfl rfl (fun _ hF => .loadC sz33 ag33 (lk 0 rfl rfl) (ty_A16_i64.fl a1.Given) rfl) ?_
  obtain ⟨r2, m2, h⟩ := h.bnd
  refine S.sil 7 rfl rfl (fun _ hF => .callQ ent149 cF (.c (lk 0 rfl rfl) (V.sub.refl _) .nil) (C_vec_Right m2)) ?_
  refine S.sil 8 rfl rfl (fun _ hF => .not (lk 0 rfl rfl)) ?_
  refine S.sil 9 rfl rfl (fun _ hF => .move (lk 0 rfl rfl)) ?_
  refine S.gsil 10 4 9 false rfl rfl rfl (lk 0 rfl rfl) (fun hB _ hF => .fieldAddrC lay36 rfl rfl (lk 6 rfl rfl) rfl (flL_c (ty_A16_i64.fl a1.Given) flL_nil)) ?_
  refine S.gsil 11 4 9 false rfl rfl rfl (lk 1 rfl rfl) (fun hB _ hF => .loadC sz33 ag33 (ifT hB (lk 0 rfl rfl)) (ty_A16_i64.fl a1.Used) rfl) ?_
  obtain ⟨r3, m3, h⟩ := h.bnd
  refine S.gsil 12 4 9 false rfl rfl rfl (lk 2 rfl rfl) (fun hB _ hF => .callQ ent149 cF (.c (ifT hB (lk 0 rfl rfl)) (V.sub.refl _) .nil) (C_vec_Right (gd_get m3 hB))) ?_
  refine S.gsil 13 4 9 false rfl rfl rfl (lk 3 rfl rfl) (fun hB _ hF => .not (ifT hB (lk 0 rfl rfl))) ?_
  refine S.sil 14 rfl rfl (fun _ hF => .pickOr (lk 4 rfl rfl) cB (fun h => ifT h (lk 0 rfl rfl))) ?_
  refine S.nil ?_
  refine thenQ_n ?_
  refine AWp.condM (lk 0 rfl rfl) h (fun c1 h => ?_) (fun c1 h => ?_)
  · skip
    refine AWp.seq ?_
    refine W.reg [0] rfl ?_
    refine S.sil 2 rfl rfl (fun _ hF => .assign cB) ?_
    refine S.nil ?_
    refine thenQ_n ?_
    refine AWp.prune (.eq (lk 0 rfl rfl) rfl (.eq (lk 12 rfl rfl) rfl .nil)) ?_
    refine AWp.ret ?_
    refine thenQ_r ?_
    obtain rfl := h.ret
    exact endF1 rfl (Wk.selS [] .nil rfl (SelE.leaf (lk 0 rfl rfl) rfl (.refl _) (fun m => (TyOk.bool.lt _ _)) .nil) .nil) (.tmp (lk 0 rfl rfl) rfl) rfl rfl
  · skip
    refine AWp.skip ?_
    refine thenQ_n ?_
    refine AWp.prune (.eq (lk 10 rfl rfl) rfl (.eq (lk 11 rfl rfl) rfl .nil)) ?_
    refine AWp.seq ?_
    refine AWp.seq ?_
    refine W.reg [0, 1, 2] rfl ?_
    refine S.sil 15 rfl rfl (fun _ hF => .fieldAddrC lay36 rfl rfl (lk 1 rfl rfl) rfl (flL_c (ty_A16_i64.fl a1.Given) (flL_c (ty_A16_i64.fl a1.Used) flL_nil))) ?_
    refine S.sil 16 rfl rfl (fun _ hF => .loadC sz34 ag34 (lk 0 rfl rfl) (ty_A16_A16_i64.fl a1.Moved) rfl) ?_
    refine S.sil 17 rfl rfl (fun _ hF => .move cI) ?_
    refine S.nil ?_
    refine thenQ_n ?_
    refine AWp.cutL (fun x6 => ⟨[(2, V.bool false)], []⟩) nc_then h (fun q4 hq4 h => ?_) (fun x6 h => ?_)
    · refine AWp.block ?_
      refine AWp.loopT (fun s5 => ⟨[(17, (V.int .i64) s5), (16, E_A16_A16_i64 a1.Moved), (2, V.bool false)], []⟩) hq4 (Wk.selS [] (by decide) rfl (SelE.leaf (lk 0 rfl rfl) rfl (.refl _) (fun m => ((TyOk.int .i64).lt _ _)) (SelE.leaf (lk 1 rfl rfl) rfl (.refl _) (fun m => (ty_A16_A16_i64.lt _ _)) (SelE.leaf (lk 3 rfl rfl) rfl (.refl _) (fun m => (TyOk.bool.lt _ _)) .nil))) .nil) (fun _ s5 h4 => ?_)
      rw [rights_Right_L1] at h4
      refine AWp.seq ?_
      refine W.reg [0] rfl ?_
      refine S.sil 18 rfl rfl (fun _ hF => .lss (lk 0 rfl rfl) cI) ?_
      refine S.nil ?_
      refine thenQ_n ?_
      refine AWp.seq ?_
      refine AWp.condM (lk 0 rfl rfl) h4 (fun c2 h4 => ?_) (fun c2 h4 => ?_)
      · skip
        refine AWp.skip ?_
        refine thenQ_n ?_
        refine AWp.seq ?_
        refine AWp.block ?_
        refine AWp.seq ?_
        refine W.reg [0, 1, 2, 3, 4] rfl ?_
        refine S.sil 19 rfl rfl (fun _ hF => .move (lk 1 rfl rfl)) ?_
        obtain ⟨k7, m7, h4⟩ := h4.bnd
        refine S.sil 20 rfl rfl (fun _ hF => .ixV arr34 (lk 3 rfl rfl) (lk 2 rfl rfl) m7 rfl) ?_
        refine S.eff 4 rfl rfl (.nf (v2 := .ptr 0 [] 0) (H2 := [.cells (E_A16_i64 (default : Vector Int 16))]) (.alloc zv33) rfl rfl) trivial ?_
        refine S.sil 3 rfl rfl (fun _ hF => .assign (lk 2 rfl rfl)) ?_
        obtain ⟨v8, ev8, h4⟩ := h4.nam
        refine S.effN rfl rfl (.nf (H2 := [.cells (E_A16_i64 v8)]) (.storeP sz33 (lk 1 rfl rfl) (lk 2 rfl rfl) rfl (.refl _) rfl .nil (by first | rfl | omega) .nil (ty_A16_i64.fl (a1.Moved.get k7)) (ty_A16_i64.fl (default : Vector Int 16)) (congrArg (fun z => ([AObj.cells (E_A16_i64 z)] : List AObj)) ev8.symm)) rfl rfl) trivial ?_
        refine S.nil ?_
        refine thenQ_n ?_
        refine AWp.wk (Wk.freeze 0 rfl rfl (.same (lk 0 rfl rfl) (.cons (lk 1 rfl rfl) rfl (.ptr .nil (by first | rfl | omega)) (.same (lk 2 rfl rfl) (.same (lk 3 rfl rfl) (.same (lk 4 rfl rfl) (.same (lk 5 rfl rfl) (.same (lk 6 rfl rfl) (.same (lk 7 rfl rfl) .nil)))))))) (.refl _)) ?_
        refine AWp.seq ?_
        refine W.reg [0, 1, 2, 3, 4, 5, 6, 7, 8] rfl ?_
        refine S.sil 21 rfl rfl (fun _ hF => .loadC sz33 ag33 (lk 1 rfl rfl) (ty_A16_i64.fl v8) rfl) ?_
        obtain ⟨r9, m9, h4⟩ := h4.bnd
        refine S.sil 22 rfl rfl (fun _ hF => .callQ ent149 cF (.c (lk 0 rfl rfl) (V.sub.refl _) .nil) (C_vec_Right m9)) ?_
        refine S.sil 23 rfl rfl (fun _ hF => .not (lk 0 rfl rfl)) ?_
        refine S.sil 24 rfl rfl (fun _ hF => .move (lk 0 rfl rfl)) ?_
        refine S.gsil 25 3 24 false rfl rfl rfl (lk 0 rfl rfl) (fun hB _ hF => .move (lk 4 rfl rfl)) ?_
        obtain ⟨k10, m10, h4⟩ := h4.bnd
        refine S.gsil 26 3 24 false rfl rfl rfl (lk 1 rfl rfl) (fun hB _ hF => .ixC arr33 (lk 6 rfl rfl) (ifT hB (lk 0 rfl rfl)) (gd_get m10 hB)) ?_
        refine S.gsil 27 3 24 false rfl rfl rfl (lk 2 rfl rfl) (fun hB _ hF => .loadC sz3 ag3 (ifT hB (lk 0 rfl rfl)) rfl rfl) ?_
        refine S.gsil 28 3 24 false rfl rfl rfl (lk 3 rfl rfl) (fun hB _ hF => .neq (ifT hB (lk 0 rfl rfl)) cI) ?_
        refine S.sil 29 rfl rfl (fun _ hF => .pickOr (lk 4 rfl rfl) cB (fun h => ifT h (lk 0 rfl rfl))) ?_
        refine S.nil ?_
        refine thenQ_n ?_
        refine AWp.condM (lk 0 rfl rfl) h4 (fun c3 h4 => ?_) (fun c3 h4 => ?_)
        · skip
          refine AWp.seq ?_
          refine W.reg [0] rfl ?_
          refine S.sil 2 rfl rfl (fun _ hF => .assign cB) ?_
          refine S.nil ?_
          refine thenQ_n ?_
          refine AWp.ret ?_
          refine blockQ_r ?_
          refine thenQ_r ?_
          refine thenQ_r ?_
          refine blockQ_r ?_
          refine thenQ_r ?_
          refine thenQ_r ?_
          have h := Ok.inrq h h4.ret
          obtain rfl := h.ret
          exact endF1 rfl (Wk.selS [] .nil rfl (SelE.leaf (lk 0 rfl rfl) rfl (.refl _) (fun m => (TyOk.bool.lt _ _)) .nil) .nil) (.tmp (lk 0 rfl rfl) rfl) rfl rfl
        · skip
          refine AWp.skip ?_
          refine blockQ_n ?_
          refine thenQ_n ?_
          refine W.reg [0, 1] rfl ?_
          refine S.sil 30 rfl rfl (fun _ hF => .add (lk 14 rfl rfl) cI) ?_
          refine S.sil 17 rfl rfl (fun _ hF => .move (lk 0 rfl rfl)) ?_
          refine S.nil ?_
          refine thenQ_n ?_
          exact ⟨_, h4.ret, (Wk.selS [] (by decide) rfl (SelE.leaf (lk 0 rfl rfl) rfl (.refl _) (fun m => ((TyOk.int .i64).lt _ _)) (SelE.leaf (lk 17 rfl rfl) rfl (.refl _) (fun m => (ty_A16_A16_i64.lt _ _)) (SelE.leaf (lk 18 rfl rfl) rfl (.refl _) (fun m => (TyOk.bool.lt _ _)) .nil))) .nil)⟩
      · skip
        refine AWp.exit ?_
        refine thenQ_x ?_
        refine thenQ_x ?_
        refine blockQ_x ?_
        refine thenQ_n ?_
        exact ⟨_, h4.ret, (Wk.selS [] (by decide) rfl (SelE.leaf (lk 3 rfl rfl) rfl (.refl _) (fun m => (TyOk.bool.lt _ _)) .nil) .nil)⟩
    · skip
      refine thenQ_n ?_
      refine AWp.seq ?_
      refine W.reg [0] rfl ?_
      refine S.sil 2 rfl rfl (fun _ hF => .assign cB) ?_
      refine S.nil ?_
      refine thenQ_n ?_
      refine AWp.ret ?_
      obtain rfl := h.ret
      exact endF1 rfl (Wk.selS [] .nil rfl (SelE.leaf (lk 0 rfl rfl) rfl (.refl _) (fun m => (TyOk.bool.lt _ _)) .nil) .nil) (.tmp (lk 0 rfl rfl) rfl) rfl rfl
theorem C_vec_Sum {a1 : Vector Int 16} {r : Int × Int} (h : vec_Sum a1 = some r) : PureC Pg 150 [E_A16_i64 a1] (.tup [(V.int .i64) r.1, (V.int .i64) r.2]) := by
  refine PureC.ofF (CallSpec.of_bodyF 8 0 fn150 rfl rfl rfl (Nat.le_of_ble_eq_true rfl) ?_) (ltL_c (ty_A16_i64.lt _ _) ltL_nil) (lt_tup (ltL_c ((TyOk.int .i64).lt _ _) (ltL_c ((TyOk.int .i64).lt _ _) ltL_nil)))
  replace h := Ok.of h
  unfold vec_Sum at h
  refine AWp.seq ?_
  refine W.reg [0, 1, 2] rfl ?_
  refine S.eff 1 rfl rfl (.nf (v2 := .ptr 0 [] 0) (H2 := [.cells (E_A16_i64 a1)]) (.box (lk 0 rfl rfl) rfl) rfl rfl) trivial ?_
  refine S.sil 2 rfl rfl (fun _ hF => .assign cI) ?_
  refine S.sil 3 rfl rfl (fun _ hF => .assign cI) ?_
  refine S.nil ?_
  refine thenQ_n ?_
  refine AWp.wk (Wk.freeze 0 rfl rfl (.same (lk 0 rfl rfl) (.same (lk 1 rfl rfl) (.cons (lk 2 rfl rfl) rfl (.ptr .nil (by first | rfl | omega)) .nil))) (.refl _)) ?_
  refine AWp.seq ?_
  refine W.reg [0, 1, 2, 3, 4, 5] rfl ?_
  refine S.sil 4 rfl rfl (fun _ hF => .sliceArr arr33 (lk 2 rfl rfl) (by simp)) ?_
  obtain ⟨r2, m2, h⟩ := h.bnd
  refine S.sil 5 rfl rfl (fun _ hF => .callQ ent40 cF (.c (lk 0 rfl rfl) (vsub rfl (.forget _ _ _)) .nil) (C_num_Sum m2)) ?_
  refine S.sil 6 rfl rfl (fun _ hF => .extract (lk 0 rfl rfl) rfl) ?_
  refine S.sil 7 rfl rfl (fun _ hF => .extract (lk 1 rfl rfl) rfl) ?_
  refine S.sil 2 rfl rfl (fun _ hF => .assign (lk 1 rfl rfl)) ?_
  refine S.sil 3 rfl rfl (fun _ hF => .assign (lk 1 rfl rfl)) ?_
  refine S.nil ?_
  refine thenQ_n ?_
  refine AWp.ret ?_
  obtain rfl := h.ret
  exact endFN rfl (Wk.selS [] .nil rfl (SelE.leaf (lk 1 rfl rfl) rfl (.refl _) (fun m => ((TyOk.int .i64).lt _ _)) (SelE.leaf (lk 0 rfl rfl) rfl (.refl _) (fun m => ((TyOk.int .i64).lt _ _)) .nil)) .nil) (.cons (.tmp (lk 0 rfl rfl) rfl) (.cons (.tmp (lk 1 rfl rfl) rfl) .nil)) rfl rfl rfl
theorem C_counter_given {a1 : TRights} {a2 : TRights} {a3 : Int} {r : Bool} (h : counter_given a1 a2 a3 = some r) : PureC Pg 112 [E_TRights a1, E_TRights a2, (V.int .i64) a3] (V.bool r) := by
  refine PureC.ofF (CallSpec.of_bodyF 46 0 fn112 rfl rfl rfl (Nat.le_of_ble_eq_true rfl) ?_) (ltL_c (ty_TRights.lt _ _) (ltL_c (ty_TRights.lt _ _) (ltL_c ((TyOk.int .i64).lt _ _) ltL_nil))) (TyOk.bool.lt _ _)
  replace h := Ok.of h
  unfold counter_given at h
  refine AWp.seq ?_
  refine W.reg [0, 1, 2] rfl ?_
  refine S.eff 3 rfl rfl (.nf (v2 := .ptr 0 [] 0) (H2 := [.cells (E_TRights a1)]) (.box (lk 0 rfl rfl) rfl) rfl rfl) trivial ?_
  refine S.eff 4 rfl rfl (.nf (v2 := .ptr 1 [] 0) (H2 := [.cells (E_TRights a1), .cells (E_TRights a2)]) (.box (lk 2 rfl rfl) rfl) rfl rfl) trivial ?_
  refine S.sil 6 rfl rfl (fun _ hF => .assign cB) ?_
  refine S.nil ?_
  refine thenQ_n ?_
  refine AWp.wk (Wk.freeze 0 rfl rfl (.same (lk 0 rfl rfl) (.same (lk 1 rfl rfl) (.cons (lk 2 rfl rfl) rfl (.ptr .nil (by first | rfl | omega)) (.same (lk 5 rfl rfl) .nil)))) (.refl _)) ?_
  refine AWp.wk (Wk.freeze 1 rfl rfl (.same (lk 0 rfl rfl) (.cons (lk 1 rfl rfl) rfl (.ptr .nil (by first | rfl | omega)) (.same (lk 2 rfl rfl) (.same (lk 3 rfl rfl) .nil)))) (.refl _)) ?_
  refine AWp.seq ?_
  refine W.reg [0, 1, 2, 3, 4, 5, 6, 7] rfl ?_
  refine S.sil 14 rfl rfl (fun _ hF => .fieldAddrC lay36 rfl rfl (lk 2 rfl rfl) rfl flL_nil) ?_
  refine S.sil 15 rfl rfl (fun _ hF => .loadC sz33 ag33 (lk 0 rfl rfl) (ty_A16_i64.fl a1.Given) rfl) ?_
  obtain ⟨r4, m4, h⟩ := h.bnd
  refine S.sil 16 rfl rfl (fun _ hF => .callQ ent150 cF (.c (lk 0 rfl rfl) (V.sub.refl _) .nil) (C_vec_Sum m4)) ?_
  refine S.sil 13 rfl rfl (fun _ hF => .move (lk 0 rfl rfl)) ?_
  refine S.sil 17 rfl rfl (fun _ hF => .extract (lk 0 rfl rfl) rfl) ?_
  refine S.sil 18 rfl rfl (fun _ hF => .extract (lk 1 rfl rfl) rfl) ?_
  refine S.sil 7 rfl rfl (fun _ hF => .assign (lk 1 rfl rfl)) ?_
  refine S.sil 8 rfl rfl (fun _ hF => .assign (lk 1 rfl rfl)) ?_
  refine S.nil ?_
  refine thenQ_n ?_
  refine AWp.seq ?_
  refine W.reg [0, 1, 2, 3, 4, 5, 6, 7] rfl ?_
  refine S.sil 20 rfl rfl (fun _ hF => .fieldAddrC lay36 rfl rfl (lk 9 rfl rfl) rfl (flL_c (ty_A16_i64.fl a2.Given) flL_nil)) ?_
  refine S.sil 21 rfl rfl (fun _ hF => .loadC sz33 ag33 (lk 0 rfl rfl) (ty_A16_i64.fl a2.Used) rfl) ?_
  obtain ⟨r5, m5, h⟩ := h.bnd
  refine S.sil 22 rfl rfl (fun _ hF => .callQ ent150 cF (.c (lk 0 rfl rfl) (V.sub.refl _) .nil) (C_vec_Sum m5)) ?_
  refine S.sil 19 rfl rfl (fun _ hF => .move (lk 0 rfl rfl)) ?_
  refine S.sil 23 rfl rfl (fun _ hF => .extract (lk 0 rfl rfl) rfl) ?_
  refine S.sil 24 rfl rfl (fun _ hF => .extract (lk 1 rfl rfl) rfl) ?_
  refine S.sil 9 rfl rfl (fun _ hF => .assign (lk 1 rfl rfl)) ?_
  refine S.sil 10 rfl rfl (fun _ hF => .assign (lk 1 rfl rfl)) ?_
  refine S.nil ?_
  refine thenQ_n ?_
  refine AWp.prune (.eq (lk 0 rfl rfl) rfl (.eq (lk 1 rfl rfl) rfl (.eq (lk 8 rfl rfl) rfl (.eq (lk 9 rfl rfl) rfl (.eq (lk 16 rfl rfl) rfl (.eq (lk 19 rfl rfl) rfl .nil)))))) ?_
  refine AWp.seq ?_
  refine W.reg [0, 1, 2, 3, 4, 5, 6, 7] rfl ?_
  refine S.sil 26 rfl rfl (fun _ hF => .move (lk 5 rfl rfl)) ?_
  refine S.sil 27 rfl rfl (fun _ hF => .move (lk 2 rfl rfl)) ?_
  obtain ⟨r6, m6, h⟩ := h.bnd
  refine S.sil 28 rfl rfl (fun _ hF => .callQ ent89 cF (.c (lk 1 rfl rfl) (V.sub.refl _) (.c (lk 0 rfl rfl) (V.sub.refl _) .nil)) (C_num_Add m6)) ?_
  refine S.sil 25 rfl rfl (fun _ hF => .move (lk 0 rfl rfl)) ?_
  refine S.sil 29 rfl rfl (fun _ hF => .extract (lk 0 rfl rfl) rfl) ?_
  refine S.sil 30 rfl rfl (fun _ hF => .extract (lk 1 rfl rfl) rfl) ?_
  refine S.sil 11 rfl rfl (fun _ hF => .assign (lk 1 rfl rfl)) ?_
  refine S.sil 12 rfl rfl (fun _ hF => .assign (lk 1 rfl rfl)) ?_
  refine S.nil ?_
  refine thenQ_n ?_
  refine AWp.seq ?_
  refine W.reg [0, 1, 2, 3, 4, 5, 6, 7, 8, 9, 10, 11, 12, 13, 14, 15] rfl ?_
  refine S.sil 31 rfl rfl (fun _ hF => .move (lk 10 rfl rfl)) ?_
  refine S.sil 32 rfl rfl (fun _ hF => .eql (lk 0 rfl rfl) cI) ?_
  refine S.sil 33 rfl rfl (fun _ hF => .move (lk 0 rfl rfl)) ?_
  refine S.gsil 34 2 33 true rfl rfl rfl (lk 0 rfl rfl) (fun hB _ hF => .move (lk 11 rfl rfl)) ?_
  refine S.gsil 35 2 33 true rfl rfl rfl (lk 1 rfl rfl) (fun hB _ hF => .eql (ifT hB (lk 0 rfl rfl)) cI) ?_
  refine S.sil 36 rfl rfl (fun _ hF => .pickAnd (lk 2 rfl rfl) (fun h => ifT h (lk 0 rfl rfl)) cB) ?_
  refine S.sil 37 rfl rfl (fun _ hF => .move (lk 0 rfl rfl)) ?_
  refine S.gsil 38 6 37 true rfl rfl rfl (lk 0 rfl rfl) (fun hB _ hF => .move (lk 7 rfl rfl)) ?_
  refine S.gsil 39 6 37 true rfl rfl rfl (lk 1 rfl rfl) (fun hB _ hF => .eql (ifT hB (lk 0 rfl rfl)) cI) ?_
  refine S.sil 40 rfl rfl (fun _ hF => .pickAnd (lk 2 rfl rfl) (fun h => ifT h (lk 0 rfl rfl)) cB) ?_
  refine S.sil 41 rfl rfl (fun _ hF => .move (lk 0 rfl rfl)) ?_
  refine S.gsil 42 10 41 true rfl rfl rfl (lk 0 rfl rfl) (fun hB _ hF => .move (lk 22 rfl rfl)) ?_
  refine S.gsil 43 10 41 true rfl rfl rfl (lk 1 rfl rfl) (fun hB _ hF => .move (lk 13 rfl rfl)) ?_
  refine S.gsil 44 10 41 true rfl rfl rfl (lk 2 rfl rfl) (fun hB _ hF => .eql (ifT hB (lk 1 rfl rfl)) (ifT hB (lk 0 rfl rfl))) ?_
  obtain ⟨v7, ev7, h⟩ := h.nam
  refine S.sil 45 rfl rfl (fun _ hF => .nv (.pickAnd (lk 3 rfl rfl) (fun h => ifT h (lk 0 rfl rfl)) cB) (congrArg V.bool ev7.symm)) ?_
  refine S.sil 6 rfl rfl (fun _ hF => .assign (lk 0 rfl rfl)) ?_
  refine S.nil ?_
  refine thenQ_n ?_
  refine AWp.prune (.eq (lk 0 rfl rfl) rfl .nil) ?_
  refine AWp.ret ?_
  obtain rfl := h.ret
  exact endF1 rfl (Wk.selS [] .nil rfl (SelE.leaf (lk 0 rfl rfl) rfl (.refl _) (fun m => (TyOk.bool.lt _ _)) .nil) .nil) (.tmp (lk 0 rfl rfl) rfl) rfl rfl
theorem C_counter_Right {a1 : TCounter} {r : Bool} (h : counter_Right a1 = some r) : PureC Pg 70 [E_TCounter a1] (V.bool r) := by
  refine PureC.ofF (CallSpec.of_bodyF 65 0 fn70 rfl rfl rfl (Nat.le_of_ble_eq_true rfl) ?_) (ltL_c (ty_TCounter.lt _ _) ltL_nil) (TyOk.bool.lt _ _)
  replace h := Ok.of h
  unfold counter_Right at h
  refine AWp.seq ?_
  refine W.reg [0, 1] rfl ?_
  refine S.eff 1 rfl rfl (.nf (v2 := .ptr 0 [] 0) (H2 := [.cells (E_TCounter a1)]) (.box (lk 0 rfl rfl) rfl) rfl rfl) trivial ?_
  refine S.sil 2 rfl rfl (fun _ hF => .assign cB) ?_
  refine S.nil ?_
  refine thenQ_n ?_
  refine AWp.wk (Wk.freeze 0 rfl rfl (.same (lk 0 rfl rfl) (.cons (lk 1 rfl rfl) rfl (.ptr .nil (by first | rfl | omega)) .nil)) (.refl _)) ?_
  refine AWp.seq ?_
  refine AWp.seq ?_
  refine W.reg [0, 1, 2, 3, 4, 5, 6, 7, 8, 9, 10, 11, 12, 13, 14, 15, 16, 17, 18, 19, 20, 21, 22, 23, 24, 25, 26, 27, 28, 29] rfl ?_
  refine S.sil 3 rfl rfl (fun _ hF => .fieldAddrC lay38 rfl rfl (lk 1 rfl rfl) rfl flL_nil) ?_
  refine S.sil 4 rfl rfl (fun _ hF => .loadC sz3 ag3 (lk 0 rfl rfl) rfl rfl) ?_
  obtain ⟨r2, m2, h⟩ := h.bnd
  refine S.sil 5 rfl rfl (fun _ hF => .callQ ent46 cF (.c (lk 0 rfl rfl) (V.sub.refl _) .nil) (C_num_Is m2)) ?_
  refine S.sil 6 rfl rfl (fun _ hF => .not (lk 0 rfl rfl)) ?_
  refine S.sil 7 rfl rfl (fun _ hF => .move (lk 0 rfl rfl)) ?_
  refine S.gsil 8 4 7 false rfl rfl rfl (lk 0 rfl rfl) (fun hB _ hF => .fieldAddrC lay38 rfl rfl (lk 6 rfl rfl) rfl (flL_c (show flen _ = 1 from rfl) flL_nil)) ?_
  refine S.gsil 9 4 7 false rfl rfl rfl (lk 1 rfl rfl) (fun hB _ hF => .loadC sz3 ag3 (ifT hB (lk 0 rfl rfl)) rfl rfl) ?_
  obtain ⟨r3, m3, h⟩ := h.bnd
  refine S.gsil 10 4 7 false rfl rfl rfl (lk 2 rfl rfl) (fun hB _ hF => .callQ ent46 cF (.c (ifT hB (lk 0 rfl rfl)) (V.sub.refl _) .nil) (C_num_Is (gd_get m3 hB))) ?_
  refine S.gsil 11 4 7 false rfl rfl rfl (lk 3 rfl rfl) (fun hB _ hF => .not (ifT hB (lk 0 rfl rfl))) ?_
  refine S.sil 12 rfl rfl (fun _ hF => .pickOr (lk 4 rfl rfl) cB (fun h => ifT h (lk 0 rfl rfl))) ?_
  refine S.sil 13 rfl rfl (fun _ hF => .move (lk 0 rfl rfl)) ?_
  refine S.gsil 14 10 13 false rfl rfl rfl (lk 0 rfl rfl) (fun hB _ hF => .fieldAddrC lay38 rfl rfl (lk 12 rfl rfl) rfl (flL_c (show flen _ = 1 from rfl) (flL_c (show flen _ = 1 from rfl) flL_nil))) ?_
  refine S.gsil 15 10 13 false rfl rfl rfl (lk 1 rfl rfl) (fun hB _ hF => .loadC sz3 ag3 (ifT hB (lk 0 rfl rfl)) rfl rfl) ?_
  obtain ⟨r4, m4, h⟩ := h.bnd
  refine S.gsil 16 10 13 false rfl rfl rfl (lk 2 rfl rfl) (fun hB _ hF => .callQ ent46 cF (.c (ifT hB (lk 0 rfl rfl)) (V.sub.refl _) .nil) (C_num_Is (gd_get m4 hB))) ?_
  refine S.gsil 17 10 13 false rfl rfl rfl (lk 3 rfl rfl) (fun hB _ hF => .not (ifT hB (lk 0 rfl rfl))) ?_
  refine S.sil 18 rfl rfl (fun _ hF => .pickOr (lk 4 rfl rfl) cB (fun h => ifT h (lk 0 rfl rfl))) ?_
  refine S.sil 19 rfl rfl (fun _ hF => .move (lk 0 rfl rfl)) ?_
  refine S.gsil 20 16 19 false rfl rfl rfl (lk 0 rfl rfl) (fun hB _ hF => .fieldAddrC lay38 rfl rfl (lk 18 rfl rfl) rfl (flL_c (show flen _ = 1 from rfl) flL_nil)) ?_
  refine S.gsil 21 16 19 false rfl rfl rfl (lk 1 rfl rfl) (fun hB _ hF => .loadC sz3 ag3 (ifT hB (lk 0 rfl rfl)) rfl rfl) ?_
  refine S.gsil 22 16 19 false rfl rfl rfl (lk 2 rfl rfl) (fun hB _ hF => .fieldAddrC lay38 rfl rfl (lk 20 rfl rfl) rfl flL_nil) ?_
  refine S.gsil 23 16 19 false rfl rfl rfl (lk 3 rfl rfl) (fun hB _ hF => .loadC sz3 ag3 (ifT hB (lk 0 rfl rfl)) rfl rfl) ?_
  refine S.gsil 24 16 19 false rfl rfl rfl (lk 4 rfl rfl) (fun hB _ hF => .gtr (ifT hB (lk 2 rfl rfl)) (ifT hB (lk 0 rfl rfl))) ?_
  refine S.sil 25 rfl rfl (fun _ hF => .pickOr (lk 5 rfl rfl) cB (fun h => ifT h (lk 0 rfl rfl))) ?_
  refine S.sil 26 rfl rfl (fun _ hF => .move (lk 0 rfl rfl)) ?_
  refine S.gsil 27 23 26 false rfl rfl rfl (lk 0 rfl rfl) (fun hB _ hF => .fieldAddrC lay38 rfl rfl (lk 25 rfl rfl) rfl flL_nil) ?_
  refine S.gsil 28 23 26 false rfl rfl rfl (lk 1 rfl rfl) (fun hB _ hF => .loadC sz3 ag3 (ifT hB (lk 0 rfl rfl)) rfl rfl) ?_
  refine S.gsil 29 23 26 false rfl rfl rfl (lk 2 rfl rfl) (fun hB _ hF => .fieldAddrC lay38 rfl rfl (lk 27 rfl rfl) rfl (flL_c (show flen _ = 1 from rfl) (flL_c (show flen _ = 1 from rfl) flL_nil))) ?_
  refine S.gsil 30 23 26 false rfl rfl rfl (lk 3 rfl rfl) (fun hB _ hF => .loadC sz3 ag3 (ifT hB (lk 0 rfl rfl)) rfl rfl) ?_
  refine S.gsil 31 23 26 false rfl rfl rfl (lk 4 rfl rfl) (fun hB _ hF => .gtr (ifT hB (lk 2 rfl rfl)) (ifT hB (lk 0 rfl rfl))) ?_
  obtain ⟨v5, ev5, h⟩ := h.nam
  refine S.sil 32 rfl rfl (fun _ hF => .nv (.pickOr (lk 5 rfl rfl) cB (fun h => ifT h (lk 0 rfl rfl))) (congrArg V.bool ev5.symm)) ?_
  refine S.nil ?_
  refine thenQ_n ?_
  refine AWp.prune (.eq (lk 0 rfl rfl) rfl (.eq (lk 30 rfl rfl) rfl (.eq (lk 31 rfl rfl) rfl .nil))) ?_
  refine AWp.condM (lk 0 rfl rfl) h (fun c1 h => ?_) (fun c1 h => ?_)
  · skip
    refine AWp.seq ?_
    refine W.reg [0] rfl ?_
    refine S.sil 2 rfl rfl (fun _ hF => .assign cB) ?_
    refine S.nil ?_
    refine thenQ_n ?_
    refine AWp.ret ?_
    refine thenQ_r ?_
    obtain rfl := h.ret
    exact endF1 rfl (Wk.selS [] .nil rfl (SelE.leaf (lk 0 rfl rfl) rfl (.refl _) (fun m => (TyOk.bool.lt _ _)) .nil) .nil) (.tmp (lk 0 rfl rfl) rfl) rfl rfl
  · skip
    refine AWp.skip ?_
    refine thenQ_n ?_
    refine AWp.seq ?_
    refine W.reg [0, 1, 2, 3, 4, 5, 6, 7, 8, 9, 10, 11, 12, 13, 14, 15, 16, 17, 18, 19, 20, 21, 22, 23, 24, 25, 26, 27, 28, 29, 30, 31, 32] rfl ?_
    refine S.sil 33 rfl rfl (fun _ hF => .fieldAddrC lay38 rfl rfl (lk 2 rfl rfl) rfl (flL_c (show flen _ = 1 from rfl) (flL_c (show flen _ = 1 from rfl) (flL_c (show flen _ = 1 from rfl) flL_nil)))) ?_
    refine S.sil 34 rfl rfl (fun _ hF => .loadC sz36 ag36 (lk 0 rfl rfl) (ty_TRights.fl a1.Down) rfl) ?_
    obtain ⟨r6, m6, h⟩ := h.bnd
    refine S.sil 35 rfl rfl (fun _ hF => .callQ ent111 cF (.c (lk 0 rfl rfl) (V.sub.refl _) .nil) (C_rights_Right m6)) ?_
    refine S.sil 36 rfl rfl (fun _ hF => .move (lk 0 rfl rfl)) ?_
    refine S.gsil 37 3 36 true rfl rfl rfl (lk 0 rfl rfl) (fun hB _ hF => .fieldAddrC lay38 rfl rfl (lk 6 rfl rfl) rfl (flL_c (show flen _ = 1 from rfl) (flL_c (show flen _ = 1 from rfl) (flL_c (show flen _ = 1 from rfl) (flL_c (ty_TRights.fl a1.Down) flL_nil))))) ?_
    refine S.gsil 38 3 36 true rfl rfl rfl (lk 1 rfl rfl) (fun hB _ hF => .loadC sz36 ag36 (ifT hB (lk 0 rfl rfl)) (ty_TRights.fl a1.Up) rfl) ?_
    obtain ⟨r7, m7, h⟩ := h.bnd
    refine S.gsil 39 3 36 true rfl rfl rfl (lk 2 rfl rfl) (fun hB _ hF => .callQ ent111 cF (.c (ifT hB (lk 0 rfl rfl)) (V.sub.refl _) .nil) (C_rights_Right (gd_get m7 hB))) ?_
    refine S.sil 40 rfl rfl (fun _ hF => .pickAnd (lk 3 rfl rfl) (fun h => ifT h (lk 0 rfl rfl)) cB) ?_
    refine S.sil 41 rfl rfl (fun _ hF => .move (lk 0 rfl rfl)) ?_
    refine S.gsil 42 8 41 true rfl rfl rfl (lk 0 rfl rfl) (fun hB _ hF => .fieldAddrC lay38 rfl rfl (lk 11 rfl rfl) rfl (flL_c (show flen _ = 1 from rfl) (flL_c (show flen _ = 1 from rfl) (flL_c (show flen _ = 1 from rfl) flL_nil)))) ?_
    refine S.gsil 43 8 41 true rfl rfl rfl (lk 1 rfl rfl) (fun hB _ hF => .loadC sz36 ag36 (ifT hB (lk 0 rfl rfl)) (ty_TRights.fl a1.Down) rfl) ?_
    refine S.gsil 44 8 41 true rfl rfl rfl (lk 2 rfl rfl) (fun hB _ hF => .fieldAddrC lay38 rfl rfl (lk 13 rfl rfl) rfl (flL_c (show flen _ = 1 from rfl) (flL_c (show flen _ = 1 from rfl) (flL_c (show flen _ = 1 from rfl) (flL_c (ty_TRights.fl a1.Down) flL_nil))))) ?_
    refine S.gsil 45 8 41 true rfl rfl rfl (lk 3 rfl rfl) (fun hB _ hF => .loadC sz36 ag36 (ifT hB (lk 0 rfl rfl)) (ty_TRights.fl a1.Up) rfl) ?_
    refine S.gsil 46 8 41 true rfl rfl rfl (lk 4 rfl rfl) (fun hB _ hF => .fieldAddrC lay38 rfl rfl (lk 15 rfl rfl) rfl flL_nil) ?_
    refine S.gsil 47 8 41 true rfl rfl rfl (lk 5 rfl rfl) (fun hB _ hF => .loadC sz3 ag3 (ifT hB (lk 0 rfl rfl)) rfl rfl) ?_
    refine S.gsil 48 8 41 true rfl rfl rfl (lk 6 rfl rfl) (fun hB _ hF => .fieldAddrC lay38 rfl rfl (lk 17 rfl rfl) rfl (flL_c (show flen _ = 1 from rfl) flL_nil)) ?_
    refine S.gsil 49 8 41 true rfl rfl rfl (lk 7 rfl rfl) (fun hB _ hF => .loadC sz3 ag3 (ifT hB (lk 0 rfl rfl)) rfl rfl) ?_
    refine S.gsil 50 8 41 true rfl rfl rfl (lk 8 rfl rfl) (fun hB _ hF => .sub (ifT hB (lk 2 rfl rfl)) (ifT hB (lk 0 rfl rfl))) ?_
    obtain ⟨r8, m8, h⟩ := h.bnd
    refine S.gsil 51 8 41 true rfl rfl rfl (lk 9 rfl rfl) (fun hB _ hF => .callQ ent112 cF (.c (ifT hB (lk 7 rfl rfl)) (V.sub.refl _) (.c (ifT hB (lk 5 rfl rfl)) (V.sub.refl _) (.c (ifT hB (lk 0 rfl rfl)) (V.sub.refl _) .nil))) (C_counter_given (gd_get m8 hB))) ?_
    refine S.sil 52 rfl rfl (fun _ hF => .pickAnd (lk 10 rfl rfl) (fun h => ifT h (lk 0 rfl rfl)) cB) ?_
    refine S.sil 53 rfl rfl (fun _ hF => .move (lk 0 rfl rfl)) ?_
    refine S.gsil 54 20 53 true rfl rfl rfl (lk 0 rfl rfl) (fun hB _ hF => .fieldAddrC lay38 rfl rfl (lk 23 rfl rfl) rfl (flL_c (show flen _ = 1 from rfl) (flL_c (show flen _ = 1 from rfl) (flL_c (show flen _ = 1 from rfl) (flL_c (ty_TRights.fl a1.Down) flL_nil))))) ?_
    refine S.gsil 55 20 53 true rfl rfl rfl (lk 1 rfl rfl) (fun hB _ hF => .loadC sz36 ag36 (ifT hB (lk 0 rfl rfl)) (ty_TRights.fl a1.Up) rfl) ?_
    refine S.gsil 56 20 53 true rfl rfl rfl (lk 2 rfl rfl) (fun hB _ hF => .fieldAddrC lay38 rfl rfl (lk 25 rfl rfl) rfl (flL_c (show flen _ = 1 from rfl) (flL_c (show flen _ = 1 from rfl) (flL_c (show flen _ = 1 from rfl) flL_nil)))) ?_
    refine S.gsil 57 20 53 true rfl rfl rfl (lk 3 rfl rfl) (fun hB _ hF => .loadC sz36 ag36 (ifT hB (lk 0 rfl rfl)) (ty_TRights.fl a1.Down) rfl) ?_
    refine S.gsil 58 20 53 true rfl rfl rfl (lk 4 rfl rfl) (fun hB _ hF => .fieldAddrC lay38 rfl rfl (lk 27 rfl rfl) rfl (flL_c (show flen _ = 1 from rfl) (flL_c (show flen _ = 1 from rfl) flL_nil))) ?_
    refine S.gsil 59 20 53 true rfl rfl rfl (lk 5 rfl rfl) (fun hB _ hF => .loadC sz3 ag3 (ifT hB (lk 0 rfl rfl)) rfl rfl) ?_
    refine S.gsil 60 20 53 true rfl rfl rfl (lk 6 rfl rfl) (fun hB _ hF => .fieldAddrC lay38 rfl rfl (lk 29 rfl rfl) rfl flL_nil) ?_
    refine S.gsil 61 20 53 true rfl rfl rfl (lk 7 rfl rfl) (fun hB _ hF => .loadC sz3 ag3 (ifT hB (lk 0 rfl rfl)) rfl rfl) ?_
    refine S.gsil 62 20 53 true rfl rfl rfl (lk 8 rfl rfl) (fun hB _ hF => .sub (ifT hB (lk 2 rfl rfl)) (ifT hB (lk 0 rfl rfl))) ?_
    obtain ⟨r9, m9, h⟩ := h.bnd
    refine S.gsil 63 20 53 true rfl rfl rfl (lk 9 rfl rfl) (fun hB _ hF => .callQ ent112 cF (.c (ifT hB (lk 7 rfl rfl)) (V.sub.refl _) (.c (ifT hB (lk 5 rfl rfl)) (V.sub.refl _) (.c (ifT hB (lk 0 rfl rfl)) (V.sub.refl _) .nil))) (C_counter_given (gd_get m9 hB))) ?_
    refine S.sil 64 rfl rfl (fun _ hF => .pickAnd (lk 10 rfl rfl) (fun h => ifT h (lk 0 rfl rfl)) cB) ?_
    obtain ⟨v10, ev10, h⟩ := h.nam
    refine S.sil 2 rfl rfl (fun _ hF => .nv (.assign (lk 0 rfl rfl)) (congrArg V.bool ev10.symm)) ?_
    refine S.nil ?_
    refine thenQ_n ?_
    refine AWp.prune (.eq (lk 0 rfl rfl) rfl .nil) ?_
    refine AWp.ret ?_
    obtain rfl := h.ret
    exact endF1 rfl (Wk.selS [] .nil rfl (SelE.leaf (lk 0 rfl rfl) rfl (.refl _) (fun m => (TyOk.bool.lt _ _)) .nil) .nil) (.tmp (lk 0 rfl rfl) rfl) rfl rfl
theorem C_lock_Right_1 {a1 : Int} {r : Bool} (h : lock_Right_1 a1 = some r) : PureC Pg 115 [(V.int .i64) a1] (V.bool r) := by
  refine PureC.ofF (CallSpec.of_bodyF 9 0 fn115 rfl rfl rfl (Nat.le_of_ble_eq_true rfl) ?_) (ltL_c ((TyOk.int .i64).lt _ _) ltL_nil) (TyOk.bool.lt _ _)
  replace h := Ok.of h
  unfold lock_Right_1 at h
  refine AWp.seq ?_
  refine W.reg [0] rfl ?_
  refine S.sil 2 rfl rfl (fun _ hF => .assign cB) ?_
  refine S.nil ?_
  refine thenQ_n ?_
  refine AWp.seq ?_
  refine W.reg [0, 1, 2, 3, 4, 5, 6] rfl ?_
  refine S.sil 3 rfl rfl (fun _ hF => .move (lk 1 rfl rfl)) ?_
  refine S.sil 4 rfl rfl (fun _ hF => .geq (lk 0 rfl rfl) cI) ?_
  refine S.sil 5 rfl rfl (fun _ hF => .move (lk 0 rfl rfl)) ?_
  refine S.gsil 6 2 5 true rfl rfl rfl (lk 0 rfl rfl) (fun hB _ hF => .move (lk 4 rfl rfl)) ?_
  obtain ⟨r2, m2, h⟩ := h.bnd
  refine S.gsil 7 2 5 true rfl rfl rfl (lk 1 rfl rfl) (fun hB _ hF => .callQ ent46 cF (.c (ifT hB (lk 0 rfl rfl)) (V.sub.refl _) .nil) (C_num_Is (gd_get m2 hB))) ?_
  refine S.sil 8 rfl rfl (fun _ hF => .pickAnd (lk 2 rfl rfl) (fun h => ifT h (lk 0 rfl rfl)) cB) ?_
  obtain ⟨v3, ev3, h⟩ := h.nam
  refine S.sil 2 rfl rfl (fun _ hF => .nv (.assign (lk 0 rfl rfl)) (congrArg V.bool ev3.symm)) ?_
  refine S.nil ?_
  refine thenQ_n ?_
  refine AWp.ret ?_
  obtain rfl := h.ret
  exact endF1 rfl (Wk.selS [] .nil rfl (SelE.leaf (lk 0 rfl rfl) rfl (.refl _) (fun m => (TyOk.bool.lt _ _)) .nil) .nil) (.tmp (lk 0 rfl rfl) rfl) rfl rfl
theorem C_lock_is {a1 : Int} {r : Bool} (h : lock_is a1 = some r) : PureC Pg 116 [(V.int .i64) a1] (V.bool r) := by
  refine PureC.ofF (CallSpec.of_bodyF 9 0 fn116 rfl rfl rfl (Nat.le_of_ble_eq_true rfl) ?_) (ltL_c ((TyOk.int .i64).lt _ _) ltL_nil) (TyOk.bool.lt _ _)
  replace h := Ok.of h
  unfold lock_is at h
  refine AWp.seq ?_
  refine W.reg [0] rfl ?_
  refine S.sil 2 rfl rfl (fun _ hF => .assign cB) ?_
  refine S.nil ?_
  refine thenQ_n ?_
  refine AWp.seq ?_
  refine W.reg [0, 1, 2, 3, 4, 5, 6] rfl ?_
  refine S.sil 3 rfl rfl (fun _ hF => .move (lk 1 rfl rfl)) ?_
  refine S.sil 4 rfl rfl (fun _ hF => .geq (lk 0 rfl rfl) cI) ?_
  refine S.sil 5 rfl rfl (fun _ hF => .move (lk 0 rfl rfl)) ?_
  refine S.gsil 6 2 5 true rfl rfl rfl (lk 0 rfl rfl) (fun hB _ hF => .move (lk 4 rfl rfl)) ?_
  refine S.gsil 7 2 5 true rfl rfl rfl (lk 1 rfl rfl) (fun hB _ hF => .lss (ifT hB (lk 0 rfl rfl)) cI) ?_
  refine S.sil 8 rfl rfl (fun _ hF => .pickAnd (lk 2 rfl rfl) (fun h => ifT h (lk 0 rfl rfl)) cB) ?_
  obtain ⟨v2, ev2, h⟩ := h.nam
  refine S.sil 2 rfl rfl (fun _ hF => .nv (.assign (lk 0 rfl rfl)) (congrArg V.bool ev2.symm)) ?_
  refine S.nil ?_
  refine thenQ_n ?_
  refine AWp.ret ?_
  obtain rfl := h.ret
  exact endF1 rfl (Wk.selS [] .nil rfl (SelE.leaf (lk 0 rfl rfl) rfl (.refl _) (fun m => (TyOk.bool.lt _ _)) .nil) .nil) (.tmp (lk 0 rfl rfl) rfl) rfl rfl
theorem C_lock_Right {a1 : TLock} {r : Bool} (h : lock_Right a1 = some r) : PureC Pg 72 [E_TLock a1] (V.bool r) := by
  refine PureC.ofF (CallSpec.of_bodyF 24 0 fn72 rfl rfl rfl (Nat.le_of_ble_eq_true rfl) ?_) (ltL_c (ty_TLock.lt _ _) ltL_nil) (TyOk.bool.lt _ _)
  replace h := Ok.of h
  unfold lock_Right at h
  refine AWp.seq ?_
  refine W.reg [0, 1] rfl ?_
  refine S.eff 1 rfl rfl (.nf (v2 := .ptr 0 [] 0) (H2 := [.cells (E_TLock a1)]) (.box (lk 0 rfl rfl) rfl) rfl rfl) trivial ?_
  refine S.sil 2 rfl rfl (fun _ hF => .assign cB) ?_
  refine S.nil ?_
  refine thenQ_n ?_
  refine AWp.wk (Wk.freeze 0 rfl rfl (.same (lk 0 rfl rfl) (.cons (lk 1 rfl rfl) rfl (.ptr .nil (by first | rfl | omega)) .nil)) (.refl _)) ?_
  refine AWp.seq ?_
  refine W.reg [0] rfl ?_
  refine S.sil 3 rfl rfl (fun _ hF => .assign cF) ?_
  refine S.nil ?_
  refine thenQ_n ?_
  refine AWp.seq ?_
  refine W.reg [0, 1, 2, 3, 4, 5, 6, 7, 8, 9, 10, 11, 12, 13, 14, 15, 16, 17, 18, 19, 20] rfl ?_
  refine S.sil 4 rfl rfl (fun _ hF => .move (lk 0 rfl rfl)) ?_
  refine S.sil 5 rfl rfl (fun _ hF => .fieldAddrC lay40 rfl rfl (lk 3 rfl rfl) rfl flL_nil) ?_
  refine S.sil 6 rfl rfl (fun _ hF => .loadC sz3 ag3 (lk 0 rfl rfl) rfl rfl) ?_
  obtain ⟨r2, m2, h⟩ := h.bnd
  refine S.sil 7 rfl rfl (fun _ hF => .callQ ent115 (lk 2 rfl rfl) (.c (lk 0 rfl rfl) (V.sub.refl _) .nil) (C_lock_Right_1 m2)) ?_
  refine S.sil 8 rfl rfl (fun _ hF => .move (lk 0 rfl rfl)) ?_
  refine S.gsil 9 4 8 true rfl rfl rfl (lk 0 rfl rfl) (fun hB _ hF => .move (lk 5 rfl rfl)) ?_
  refine S.gsil 10 4 8 true rfl rfl rfl (lk 1 rfl rfl) (fun hB _ hF => .fieldAddrC lay40 rfl rfl (lk 8 rfl rfl) rfl (flL_c (show flen _ = 1 from rfl) flL_nil)) ?_
  refine S.gsil 11 4 8 true rfl rfl rfl (lk 2 rfl rfl) (fun hB _ hF => .loadC sz3 ag3 (ifT hB (lk 0 rfl rfl)) rfl rfl) ?_
  obtain ⟨r3, m3, h⟩ := h.bnd
  refine S.gsil 12 4 8 true rfl rfl rfl (lk 3 rfl rfl) (fun hB _ hF => .callQ ent115 (ifT hB (lk 2 rfl rfl)) (.c (ifT hB (lk 0 rfl rfl)) (V.sub.refl _) .nil) (C_lock_Right_1 (gd_get m3 hB))) ?_
  refine S.sil 13 rfl rfl (fun _ hF => .pickAnd (lk 4 rfl rfl) (fun h => ifT h (lk 0 rfl rfl)) cB) ?_
  refine S.sil 14 rfl rfl (fun _ hF => .move (lk 0 rfl rfl)) ?_
  refine S.gsil 15 10 14 true rfl rfl rfl (lk 0 rfl rfl) (fun hB _ hF => .fieldAddrC lay40 rfl rfl (lk 13 rfl rfl) rfl (flL_c (show flen _ = 1 from rfl) (flL_c (show flen _ = 1 from rfl) flL_nil))) ?_
  refine S.gsil 16 10 14 true rfl rfl rfl (lk 1 rfl rfl) (fun hB _ hF => .loadC sz3 ag3 (ifT hB (lk 0 rfl rfl)) rfl rfl) ?_
  obtain ⟨r4, m4, h⟩ := h.bnd
  refine S.gsil 17 10 14 true rfl rfl rfl (lk 2 rfl rfl) (fun hB _ hF => .callQ ent116 cF (.c (ifT hB (lk 0 rfl rfl)) (V.sub.refl _) .nil) (C_lock_is (gd_get m4 hB))) ?_
  refine S.sil 18 rfl rfl (fun _ hF => .pickAnd (lk 3 rfl rfl) (fun h => ifT h (lk 0 rfl rfl)) cB) ?_
  refine S.sil 19 rfl rfl (fun _ hF => .move (lk 0 rfl rfl)) ?_
  refine S.gsil 20 15 19 true rfl rfl rfl (lk 0 rfl rfl) (fun hB _ hF => .fieldAddrC lay40 rfl rfl (lk 18 rfl rfl) rfl (flL_c (show flen _ = 1 from rfl) (flL_c (show flen _ = 1 from rfl) (flL_c (show flen _ = 1 from rfl) flL_nil)))) ?_
  refine S.gsil 21 15 19 true rfl rfl rfl (lk 1 rfl rfl) (fun hB _ hF => .loadC sz3 ag3 (ifT hB (lk 0 rfl rfl)) rfl rfl) ?_
  obtain ⟨r5, m5, h⟩ := h.bnd
  refine S.gsil 22 15 19 true rfl rfl rfl (lk 2 rfl rfl) (fun hB _ hF => .callQ ent46 cF (.c (ifT hB (lk 0 rfl rfl)) (V.sub.refl _) .nil) (C_num_Is (gd_get m5 hB))) ?_
  refine S.sil 23 rfl rfl (fun _ hF => .pickAnd (lk 3 rfl rfl) (fun h => ifT h (lk 0 rfl rfl)) cB) ?_
  obtain ⟨v6, ev6, h⟩ := h.nam
  refine S.sil 2 rfl rfl (fun _ hF => .nv (.assign (lk 0 rfl rfl)) (congrArg V.bool ev6.symm)) ?_
  refine S.nil ?_
  refine thenQ_n ?_
  refine AWp.prune (.eq (lk 0 rfl rfl) rfl .nil) ?_
  refine AWp.ret ?_
  obtain rfl := h.ret
  exact endF1 rfl (Wk.selS [] .nil rfl (SelE.leaf (lk 0 rfl rfl) rfl (.refl _) (fun m => (TyOk.bool.lt _ _)) .nil) .nil) (.tmp (lk 0 rfl rfl) rfl) rfl rfl
theorem C_field_Right {a1 : TField} {r : Bool} (h : field_Right a1 = some r) : PureC Pg 29 [E_TField a1] (V.bool r) := by
  refine PureC.ofF (CallSpec.of_bodyF 53 0 fn29 rfl rfl rfl (Nat.le_of_ble_eq_true rfl) ?_) (ltL_c (ty_TField.lt _ _) ltL_nil) (TyOk.bool.lt _ _)
  replace h := Ok.of h
  unfold field_Right at h
  refine AWp.seq ?_
  refine W.reg [0, 1] rfl ?_
  refine S.eff 1 rfl rfl (.nf (v2 := .ptr 0 [] 0) (H2 := [.cells (E_TField a1)]) (.box (lk 0 rfl rfl) rfl) rfl rfl) trivial ?_
  refine S.sil 2 rfl rfl (fun _ hF => .assign cB) ?_
  refine S.nil ?_
  refine thenQ_n ?_
  refine AWp.wk (Wk.freeze 0 rfl rfl (.same (lk 0 rfl rfl) (.cons (lk 1 rfl rfl) rfl (.ptr .nil (by first | rfl | omega)) .nil)) (.refl _)) ?_
  refine AWp.seq ?_
  refine AWp.seq ?_
  refine W.reg [0, 1, 2, 3, 4, 5, 6, 7, 8, 9, 10, 11, 12, 13, 14] rfl ?_
  refine S.sil 3 rfl rfl (fun _ hF => .fieldAddrC lay43 rfl rfl (lk 1 rfl rfl) rfl flL_nil) ?_
  refine S.sil 4 rfl rfl (fun _ hF => .loadC sz9 ag9 (lk 0 rfl rfl) rfl rfl) ?_
  obtain ⟨r2, m2, h⟩ := h.bnd
  refine S.sil 5 rfl rfl (fun _ hF => .callQ ent30 cF (.c (lk 0 rfl rfl) (V.sub.refl _) .nil) (C_field_Name m2)) ?_
  refine S.sil 6 rfl rfl (fun _ hF => .not (lk 0 rfl rfl)) ?_
  refine S.sil 7 rfl rfl (fun _ hF => .move (lk 0 rfl rfl)) ?_
  refine S.gsil 8 4 7 false rfl rfl rfl (lk 0 rfl rfl) (fun hB _ hF => .fieldAddrC lay43 rfl rfl (lk 6 rfl rfl) rfl (flL_c (show flen _ = 1 from rfl) (flL_c (show flen _ = 1 from rfl) flL_nil))) ?_
  refine S.gsil 9 4 7 false rfl rfl rfl (lk 1 rfl rfl) (fun hB _ hF => .loadC sz3 ag3 (ifT hB (lk 0 rfl rfl)) rfl rfl) ?_
  refine S.gsil 10 4 7 false rfl rfl rfl (lk 2 rfl rfl) (fun hB _ hF => .lss (ifT hB (lk 0 rfl rfl)) cI) ?_
  refine S.sil 11 rfl rfl (fun _ hF => .pickOr (lk 3 rfl rfl) cB (fun h => ifT h (lk 0 rfl rfl))) ?_
  refine S.sil 12 rfl rfl (fun _ hF => .move (lk 0 rfl rfl)) ?_
  refine S.gsil 13 9 12 false rfl rfl rfl (lk 0 rfl rfl) (fun hB _ hF => .fieldAddrC lay43 rfl rfl (lk 11 rfl rfl) rfl (flL_c (show flen _ = 1 from rfl) (flL_c (show flen _ = 1 from rfl) flL_nil))) ?_
  refine S.gsil 14 9 12 false rfl rfl rfl (lk 1 rfl rfl) (fun hB _ hF => .loadC sz3 ag3 (ifT hB (lk 0 rfl rfl)) rfl rfl) ?_
  obtain ⟨r3, m3, h⟩ := h.bnd
  refine S.gsil 15 9 12 false rfl rfl rfl (lk 2 rfl rfl) (fun hB _ hF => .callQ ent46 cF (.c (ifT hB (lk 0 rfl rfl)) (V.sub.refl _) .nil) (C_num_Is (gd_get m3 hB))) ?_
  refine S.gsil 16 9 12 false rfl rfl rfl (lk 3 rfl rfl) (fun hB _ hF => .not (ifT hB (lk 0 rfl rfl))) ?_
  refine S.sil 17 rfl rfl (fun _ hF => .pickOr (lk 4 rfl rfl) cB (fun h => ifT h (lk 0 rfl rfl))) ?_
  refine S.nil ?_
  refine thenQ_n ?_
  refine AWp.prune (.eq (lk 0 rfl rfl) rfl (.eq (lk 15 rfl rfl) rfl (.eq (lk 16 rfl rfl) rfl .nil))) ?_
  refine AWp.condM (lk 0 rfl rfl) h (fun c1 h => ?_) (fun c1 h => ?_)
  · skip
    refine AWp.seq ?_
    refine W.reg [0] rfl ?_
    refine S.sil 2 rfl rfl (fun _ hF => .assign cB) ?_
    refine S.nil ?_
    refine thenQ_n ?_
    refine AWp.ret ?_
    refine thenQ_r ?_
    obtain rfl := h.ret
    exact endF1 rfl (Wk.selS [] .nil rfl (SelE.leaf (lk 0 rfl rfl) rfl (.refl _) (fun m => (TyOk.bool.lt _ _)) .nil) .nil) (.tmp (lk 0 rfl rfl) rfl) rfl rfl
  · skip
    refine AWp.skip ?_
    refine thenQ_n ?_
    refine AWp.seq ?_
    refine AWp.seq ?_
    refine W.reg [0, 1] rfl ?_
    refine S.sil 18 rfl rfl (fun _ hF => .fieldAddrC lay43 rfl rfl (lk 2 rfl rfl) rfl (flL_c (show flen _ = 1 from rfl) flL_nil)) ?_
    refine S.sil 19 rfl rfl (fun _ hF => .loadC sz3 ag3 (lk 0 rfl rfl) rfl rfl) ?_
    refine S.nil ?_
    refine thenQ_n ?_
    refine AWp.block ?_
    refine AWp.seq ?_
    refine W.reg [0, 1] rfl ?_
    refine S.sil 21 rfl rfl (fun _ hF => .eql (lk 0 rfl rfl) cI) ?_
    refine S.sil 20 rfl rfl (fun _ hF => .assign (lk 0 rfl rfl)) ?_
    refine S.nil ?_
    refine thenQ_n ?_
    refine AWp.condM (lk 0 rfl rfl) h (fun c2 h => ?_) (fun c2 h => ?_)
    · skip
      refine AWp.seq ?_
      refine W.reg [0, 1, 2, 3, 4, 5, 6, 7, 8, 9, 10, 11, 12, 13, 14] rfl ?_
      refine S.sil 22 rfl rfl (fun _ hF => .fieldAddrC lay43 rfl rfl (lk 6 rfl rfl) rfl (flL_c (show flen _ = 1 from rfl) (flL_c (show flen _ = 1 from rfl) (flL_c (show flen _ = 1 from rfl) flL_nil)))) ?_
      refine S.sil 23 rfl rfl (fun _ hF => .loadC sz38 ag38 (lk 0 rfl rfl) (ty_TCounter.fl a1.Counter) rfl) ?_
      obtain ⟨r4, m4, h⟩ := h.bnd
      refine S.sil 24 rfl rfl (fun _ hF => .callQ ent70 cF (.c (lk 0 rfl rfl) (V.sub.refl _) .nil) (C_counter_Right m4)) ?_
      refine S.sil 25 rfl rfl (fun _ hF => .move (lk 0 rfl rfl)) ?_
      refine S.gsil 26 3 25 true rfl rfl rfl (lk 0 rfl rfl) (fun hB _ hF => .fieldAddrC lay43 rfl rfl (lk 10 rfl rfl) rfl (flL_c (show flen _ = 1 from rfl) (flL_c (show flen _ = 1 from rfl) (flL_c (show flen _ = 1 from rfl) (flL_c (ty_TCounter.fl a1.Counter) (flL_c (ty_TLock.fl a1.Lock) flL_nil)))))) ?_
      refine S.gsil 27 3 25 true rfl rfl rfl (lk 1 rfl rfl) (fun hB _ hF => .loadC sz41 ag41 (ifT hB (lk 0 rfl rfl)) rfl rfl) ?_
      obtain ⟨r5, m5, h⟩ := h.bnd
      refine S.gsil 28 3 25 true rfl rfl rfl (lk 2 rfl rfl) (fun hB _ hF => .callQ ent71 cF (.c (ifT hB (lk 0 rfl rfl)) (V.sub.refl _) .nil) (C_hold_Rights (gd_get m5 hB))) ?_
      refine S.sil 29 rfl rfl (fun _ hF => .pickAnd (lk 3 rfl rfl) (fun h => ifT h (lk 0 rfl rfl)) cB) ?_
      refine S.sil 30 rfl rfl (fun _ hF => .move (lk 0 rfl rfl)) ?_
      refine S.gsil 31 8 30 true rfl rfl rfl (lk 0 rfl rfl) (fun hB _ hF => .fieldAddrC lay43 rfl rfl (lk 15 rfl rfl) rfl (flL_c (show flen _ = 1 from rfl) (flL_c (show flen _ = 1 from rfl) (flL_c (show flen _ = 1 from rfl) (flL_c (ty_TCounter.fl a1.Counter) flL_nil))))) ?_
      refine S.gsil 32 8 30 true rfl rfl rfl (lk 1 rfl rfl) (fun hB _ hF => .loadC sz40 ag40 (ifT hB (lk 0 rfl rfl)) (ty_TLock.fl a1.Lock) rfl) ?_
      refine S.gsil 33 8 30 true rfl rfl rfl (lk 2 rfl rfl) (fun hB _ hF => .nv (v2 := E_TLock (⟨0, 0, 0, 0⟩ : TLock)) (.buildStW lay40 zv40 rfl .nil) rfl) ?_
      refine S.gsil 34 8 30 true rfl rfl rfl (lk 3 rfl rfl) (fun hB _ hF => .eqlT eqt40 eqk_TLock shk_TLock (ifT hB (lk 1 rfl rfl)) (ifT hB (lk 0 rfl rfl)) rfl rfl) ?_
      refine S.sil 35 rfl rfl (fun _ hF => .pickAnd (lk 4 rfl rfl) (fun h => ifT h (lk 0 rfl rfl)) cB) ?_
      obtain ⟨v6, ev6, h⟩ := h.nam
      refine S.sil 2 rfl rfl (fun _ hF => .nv (.assign (lk 0 rfl rfl)) (congrArg V.bool ev6.symm)) ?_
      refine S.nil ?_
      refine thenQ_n ?_
      refine AWp.prune (.eq (lk 0 rfl rfl) rfl .nil) ?_
      refine AWp.ret ?_
      refine blockQ_r ?_
      refine thenQ_r ?_
      obtain rfl := h.ret
      exact endF1 rfl (Wk.selS [] .nil rfl (SelE.leaf (lk 0 rfl rfl) rfl (.refl _) (fun m => (TyOk.bool.lt _ _)) .nil) .nil) (.tmp (lk 0 rfl rfl) rfl) rfl rfl
    · skip
      refine AWp.seq ?_
      refine W.reg [0, 1] rfl ?_
      refine S.sil 37 rfl rfl (fun _ hF => .eql (lk 2 rfl rfl) cI) ?_
      refine S.sil 36 rfl rfl (fun _ hF => .assign (lk 0 rfl rfl)) ?_
      refine S.nil ?_
      refine thenQ_n ?_
      refine AWp.condM (lk 0 rfl rfl) h (fun c3 h => ?_) (fun c3 h => ?_)
      · skip
        refine AWp.seq ?_
        refine W.reg [0, 1, 2, 3, 4, 5, 6, 7, 8, 9, 10, 11, 12, 13, 14, 15] rfl ?_
        refine S.sil 38 rfl rfl (fun _ hF => .fieldAddrC lay43 rfl rfl (lk 8 rfl rfl) rfl (flL_c (show flen _ = 1 from rfl) (flL_c (show flen _ = 1 from rfl) (flL_c (show flen _ = 1 from rfl) (flL_c (ty_TCounter.fl a1.Counter) flL_nil))))) ?_
        refine S.sil 39 rfl rfl (fun _ hF => .loadC sz40 ag40 (lk 0 rfl rfl) (ty_TLock.fl a1.Lock) rfl) ?_
        obtain ⟨r7, m7, h⟩ := h.bnd
        refine S.sil 40 rfl rfl (fun _ hF => .callQ ent72 cF (.c (lk 0 rfl rfl) (V.sub.refl _) .nil) (C_lock_Right m7)) ?_
        refine S.sil 41 rfl rfl (fun _ hF => .move (lk 0 rfl rfl)) ?_
        refine S.gsil 42 3 41 true rfl rfl rfl (lk 0 rfl rfl) (fun hB _ hF => .fieldAddrC lay43 rfl rfl (lk 12 rfl rfl) rfl (flL_c (show flen _ = 1 from rfl) (flL_c (show flen _ = 1 from rfl) (flL_c (show flen _ = 1 from rfl) (flL_c (ty_TCounter.fl a1.Counter) (flL_c (ty_TLock.fl a1.Lock) flL_nil)))))) ?_
        refine S.gsil 43 3 41 true rfl rfl rfl (lk 1 rfl rfl) (fun hB _ hF => .loadC sz41 ag41 (ifT hB (lk 0 rfl rfl)) rfl rfl) ?_
        refine S.gsil 44 3 41 true rfl rfl rfl (lk 2 rfl rfl) (fun hB _ hF => .lenT sli41 (ifT hB (lk 0 rfl rfl)) (vsub rfl (.refl _))) ?_
        refine S.gsil 45 3 41 true rfl rfl rfl (lk 3 rfl rfl) (fun hB _ hF => .eql (ifT hB (lk 0 rfl rfl)) cI) ?_
        refine S.sil 46 rfl rfl (fun _ hF => .pickAnd (lk 4 rfl rfl) (fun h => ifT h (lk 0 rfl rfl)) cB) ?_
        refine S.sil 47 rfl rfl (fun _ hF => .move (lk 0 rfl rfl)) ?_
        refine S.gsil 48 9 47 true rfl rfl rfl (lk 0 rfl rfl) (fun hB _ hF => .fieldAddrC lay43 rfl rfl (lk 18 rfl rfl) rfl (flL_c (show flen _ = 1 from rfl) (flL_c (show flen _ = 1 from rfl) (flL_c (show flen _ = 1 from rfl) flL_nil)))) ?_
        refine S.gsil 49 9 47 true rfl rfl rfl (lk 1 rfl rfl) (fun hB _ hF => .loadC sz38 ag38 (ifT hB (lk 0 rfl rfl)) (ty_TCounter.fl a1.Counter) rfl) ?_
        refine S.gsil 50 9 47 true rfl rfl rfl (lk 2 rfl rfl) (fun hB _ hF => .nv (v2 := E_TCounter (⟨0, 0, 0, (default : TRights), (default : TRights)⟩ : TCounter)) (.buildStW lay38 zv38 rfl .nil) rfl) ?_
        refine S.gsil 51 9 47 true rfl rfl rfl (lk 3 rfl rfl) (fun hB _ hF => .eqlT eqt38 eqk_TCounter shk_TCounter (ifT hB (lk 1 rfl rfl)) (ifT hB (lk 0 rfl rfl)) rfl rfl) ?_
        obtain ⟨v8, ev8, h⟩ := h.nam
        refine S.sil 52 rfl rfl (fun _ hF => .nv (.pickAnd (lk 4 rfl rfl) (fun h => ifT h (lk 0 rfl rfl)) cB) (congrArg V.bool ev8.symm)) ?_
        refine S.sil 2 rfl rfl (fun _ hF => .assign (lk 0 rfl rfl)) ?_
        refine S.nil ?_
        refine thenQ_n ?_
        refine AWp.prune (.eq (lk 0 rfl rfl) rfl .nil) ?_
        refine AWp.ret ?_
        refine blockQ_r ?_
        refine thenQ_r ?_
        obtain rfl := h.ret
        exact endF1 rfl (Wk.selS [] .nil rfl (SelE.leaf (lk 0 rfl rfl) rfl (.refl _) (fun m => (TyOk.bool.lt _ _)) .nil) .nil) (.tmp (lk 0 rfl rfl) rfl) rfl rfl
      · skip
        refine AWp.skip ?_
        refine blockQ_n ?_
        refine thenQ_n ?_
        refine AWp.seq ?_
        refine W.reg [0] rfl ?_
        refine S.sil 2 rfl rfl (fun _ hF => .assign cB) ?_
        refine S.nil ?_
        refine thenQ_n ?_
        refine AWp.ret ?_
        obtain rfl := h.ret
        exact endF1 rfl (Wk.selS [] .nil rfl (SelE.leaf (lk 0 rfl rfl) rfl (.refl _) (fun m => (TyOk.bool.lt _ _)) .nil) .nil) (.tmp (lk 0 rfl rfl) rfl) rfl rfl
theorem C_usufructlaw07_awake  {r : Bool} (h : usufructlaw07_awake = some r) : PureC Pg 23 [] (V.bool r) := by
  refine PureC.ofF (CallSpec.of_bodyF 75 0 fn23 rfl rfl rfl (Nat.le_of_ble_eq_true rfl) ?_) ltL_nil (TyOk.bool.lt _ _)
  replace h := Ok.of h
  unfold usufructlaw07_awake at h
  refine AWp.seq ?_
  refine W.reg [0] rfl ?_
  refine S.sil 0 rfl rfl (fun _ hF => .assign cB) ?_
  refine S.nil ?_
  refine thenQ_n ?_
  refine AWp.seq ?_
  refine W.reg [0, 1, 2, 3, 4, 5, 6] rfl ?_
  obtain ⟨r1, m1, h⟩ := h.bnd
  refine S.sil 15 rfl rfl (fun _ hF => .callQ ent39 cF (.c cS (V.sub.refl _) (.c cI (V.sub.refl _) (.c cI (V.sub.refl _) (.c cI (V.sub.refl _) .nil)))) (C_field_Counter m1)) ?_
  refine S.sil 14 rfl rfl (fun _ hF => .move (lk 0 rfl rfl)) ?_
  refine S.sil 16 rfl rfl (fun _ hF => .extract (lk 0 rfl rfl) rfl) ?_
  refine S.sil 17 rfl rfl (fun _ hF => .extract (lk 1 rfl rfl) rfl) ?_
  refine S.eff 1 rfl rfl (.nf (v2 := .ptr 0 [] 0) (H2 := [.cells (.st [V.str (default : ByteArray), (V.int .i64) 0, (V.int .i64) 0, E_TCounter (default : TCounter), E_TLock (default : TLock), .nils])]) (.alloc zv43) rfl rfl) trivial ?_
  refine S.effN rfl rfl (.nf (H2 := [.cells (E_TField r1.1)]) (.storeP sz43 (lk 0 rfl rfl) (lk 2 rfl rfl) rfl (.refl _) rfl .nil (by first | rfl | omega) .nil (ty_TField.fl r1.1) (fl_st (flL_c (show flen _ = 1 from rfl) (flL_c (show flen _ = 1 from rfl) (flL_c (show flen _ = 1 from rfl) (flL_c (ty_TCounter.fl (default : TCounter)) (flL_c (ty_TLock.fl (default : TLock)) (flL_c (show flen _ = 1 from rfl) flL_nil))))))) rfl) rfl rfl) trivial ?_
  refine S.sil 2 rfl rfl (fun _ hF => .assign (lk 1 rfl rfl)) ?_
  refine S.nil ?_
  refine thenQ_n ?_
  refine AWp.wk (Wk.freeze 0 rfl rfl (.same (lk 0 rfl rfl) (.cons (lk 1 rfl rfl) rfl (.ptr .nil (by first | rfl | omega)) (.same (lk 6 rfl rfl) .nil))) (.refl _)) ?_
  refine AWp.seq ?_
  refine W.reg [0, 1, 2, 3, 4, 5, 6, 7, 8, 9] rfl ?_
  refine S.sil 19 rfl rfl (fun _ hF => .loadC sz43 ag43 (lk 1 rfl rfl) (ty_TField.fl r1.1) rfl) ?_
  obtain ⟨r2, m2, h⟩ := h.bnd
  refine S.sil 20 rfl rfl (fun _ hF => .callQ ent33 cF (.c (lk 0 rfl rfl) (V.sub.refl _) (.c cI (V.sub.refl _) (.c cI (V.sub.refl _) (.c cI (V.sub.refl _) .nil)))) (C_field_Reserve m2)) ?_
  refine S.sil 18 rfl rfl (fun _ hF => .move (lk 0 rfl rfl)) ?_
  refine S.sil 21 rfl rfl (fun _ hF => .extract (lk 0 rfl rfl) rfl) ?_
  refine S.sil 22 rfl rfl (fun _ hF => .extract (lk 1 rfl rfl) rfl) ?_
  refine S.sil 23 rfl rfl (fun _ hF => .extract (lk 2 rfl rfl) rfl) ?_
  refine S.eff 3 rfl rfl (.nf (v2 := .ptr 1 [] 0) (H2 := [.dead, .cells (.st [V.str (default : ByteArray), (V.int .i64) 0, (V.int .i64) 0, E_TCounter (default : TCounter), E_TLock (default : TLock), .nils])]) (.alloc zv43) rfl rfl) trivial ?_
  refine S.effN rfl rfl (.nf (H2 := [.dead, .cells (E_TField r2.1)]) (.storeP sz43 (lk 0 rfl rfl) (lk 3 rfl rfl) rfl (.refl _) rfl .nil (by first | rfl | omega) .nil (ty_TField.fl r2.1) (fl_st (flL_c (show flen _ = 1 from rfl) (flL_c (show flen _ = 1 from rfl) (flL_c (show flen _ = 1 from rfl) (flL_c (ty_TCounter.fl (default : TCounter)) (flL_c (ty_TLock.fl (default : TLock)) (flL_c (show flen _ = 1 from rfl) flL_nil))))))) rfl) rfl rfl) trivial ?_
  refine S.sil 4 rfl rfl (fun _ hF => .assign (lk 2 rfl rfl)) ?_
  refine S.sil 5 rfl rfl (fun _ hF => .assign (lk 2 rfl rfl)) ?_
  refine S.nil ?_
  refine thenQ_n ?_
  refine AWp.wk (Wk.freeze 1 rfl rfl (.same (lk 0 rfl rfl) (.same (lk 1 rfl rfl) (.cons (lk 2 rfl rfl) rfl (.ptr .nil (by first | rfl | omega)) (.same (lk 9 rfl rfl) (.same (lk 11 rfl rfl) .nil))))) (.refl _)) ?_
  refine AWp.seq ?_
  refine W.reg [0, 1, 2, 3, 4, 5, 6, 7] rfl ?_
  refine S.sil 25 rfl rfl (fun _ hF => .loadC sz43 ag43 (lk 2 rfl rfl) (ty_TField.fl r2.1) rfl) ?_
  obtain ⟨r3, m3, h⟩ := h.bnd
  refine S.sil 26 rfl rfl (fun _ hF => .callQ ent60 cF (.c (lk 0 rfl rfl) (V.sub.refl _) (.c cI (V.sub.refl _) (.c cI (V.sub.refl _) .nil))) (C_field_Add m3)) ?_
  refine S.sil 24 rfl rfl (fun _ hF => .move (lk 0 rfl rfl)) ?_
  refine S.sil 27 rfl rfl (fun _ hF => .extract (lk 0 rfl rfl) rfl) ?_
  refine S.sil 28 rfl rfl (fun _ hF => .extract (lk 1 rfl rfl) rfl) ?_
  refine S.eff 6 rfl rfl (.nf (v2 := .ptr 2 [] 0) (H2 := [.dead, .dead, .cells (.st [V.str (default : ByteArray), (V.int .i64) 0, (V.int .i64) 0, E_TCounter (default : TCounter), E_TLock (default : TLock), .nils])]) (.alloc zv43) rfl rfl) trivial ?_
  refine S.effN rfl rfl (.nf (H2 := [.dead, .dead, .cells (E_TField r3.1)]) (.storeP sz43 (lk 0 rfl rfl) (lk 2 rfl rfl) rfl (.refl _) rfl .nil (by first | rfl | omega) .nil (ty_TField.fl r3.1) (fl_st (flL_c (show flen _ = 1 from rfl) (flL_c (show flen _ = 1 from rfl) (flL_c (show flen _ = 1 from rfl) (flL_c (ty_TCounter.fl (default : TCounter)) (flL_c (ty_TLock.fl (default : TLock)) (flL_c (show flen _ = 1 from rfl) flL_nil))))))) rfl) rfl rfl) trivial ?_
  refine S.sil 7 rfl rfl (fun _ hF => .assign (lk 1 rfl rfl)) ?_
  refine S.nil ?_
  refine thenQ_n ?_
  refine AWp.wk (Wk.freeze 2 rfl rfl (.same (lk 0 rfl rfl) (.same (lk 7 rfl rfl) (.same (lk 8 rfl rfl) (.same (lk 9 rfl rfl) (.same (lk 10 rfl rfl) (.same (lk 11 rfl rfl) .nil)))))) (.refl _)) ?_
  refine AWp.seq ?_
  refine W.reg [0, 1, 2, 3, 4, 5, 6, 7] rfl ?_
  refine S.sil 30 rfl rfl (fun _ hF => .loadC sz43 ag43 (lk 3 rfl rfl) (ty_TField.fl r2.1) rfl) ?_
  obtain ⟨r4, m4, h⟩ := h.bnd
  refine S.sil 31 rfl rfl (fun _ hF => .callQ ent60 cF (.c (lk 0 rfl rfl) (V.sub.refl _) (.c cI (V.sub.refl _) (.c cI (V.sub.refl _) .nil))) (C_field_Add m4)) ?_
  refine S.sil 29 rfl rfl (fun _ hF => .move (lk 0 rfl rfl)) ?_
  refine S.sil 32 rfl rfl (fun _ hF => .extract (lk 0 rfl rfl) rfl) ?_
  refine S.sil 33 rfl rfl (fun _ hF => .extract (lk 1 rfl rfl) rfl) ?_
  refine S.eff 8 rfl rfl (.nf (v2 := .ptr 3 [] 0) (H2 := [.dead, .dead, .dead, .cells (.st [V.str (default : ByteArray), (V.int .i64) 0, (V.int .i64) 0, E_TCounter (default : TCounter), E_TLock (default : TLock), .nils])]) (.alloc zv43) rfl rfl) trivial ?_
  refine S.effN rfl rfl (.nf (H2 := [.dead, .dead, .dead, .cells (E_TField r4.1)]) (.storeP sz43 (lk 0 rfl rfl) (lk 2 rfl rfl) rfl (.refl _) rfl .nil (by first | rfl | omega) .nil (ty_TField.fl r4.1) (fl_st (flL_c (show flen _ = 1 from rfl) (flL_c (show flen _ = 1 from rfl) (flL_c (show flen _ = 1 from rfl) (flL_c (ty_TCounter.fl (default : TCounter)) (flL_c (ty_TLock.fl (default : TLock)) (flL_c (show flen _ = 1 from rfl) flL_nil))))))) rfl) rfl rfl) trivial ?_
  refine S.sil 9 rfl rfl (fun _ hF => .assign (lk 1 rfl rfl)) ?_
  refine S.nil ?_
  refine thenQ_n ?_
  refine AWp.wk (Wk.freeze 3 rfl rfl (.same (lk 0 rfl rfl) (.cons (lk 1 rfl rfl) rfl (.ptr .nil (by first | rfl | omega)) (.same (lk 7 rfl rfl) (.same (lk 8 rfl rfl) (.same (lk 9 rfl rfl) (.same (lk 11 rfl rfl) (.same (lk 12 rfl rfl) .nil))))))) (.refl _)) ?_
  refine AWp.seq ?_
  refine W.reg [0, 1, 2, 3, 4, 5, 6, 7, 8] rfl ?_
  refine S.sil 35 rfl rfl (fun _ hF => .loadC sz43 ag43 (lk 1 rfl rfl) (ty_TField.fl r4.1) rfl) ?_
  refine S.sil 36 rfl rfl (fun _ hF => .move (lk 5 rfl rfl)) ?_
  obtain ⟨r5, m5, h⟩ := h.bnd
  refine S.sil 37 rfl rfl (fun _ hF => .callQ ent35 cF (.c (lk 1 rfl rfl) (V.sub.refl _) (.c cI (V.sub.refl _) (.c (lk 0 rfl rfl) (V.sub.refl _) (.c cI (V.sub.refl _) .nil)))) (C_field_End m5)) ?_
  refine S.sil 34 rfl rfl (fun _ hF => .move (lk 0 rfl rfl)) ?_
  refine S.sil 38 rfl rfl (fun _ hF => .extract (lk 0 rfl rfl) rfl) ?_
  refine S.sil 39 rfl rfl (fun _ hF => .extract (lk 1 rfl rfl) rfl) ?_
  refine S.eff 10 rfl rfl (.nf (v2 := .ptr 4 [] 0) (H2 := [.dead, .dead, .dead, .dead, .cells (.st [V.str (default : ByteArray), (V.int .i64) 0, (V.int .i64) 0, E_TCounter (default : TCounter), E_TLock (default : TLock), .nils])]) (.alloc zv43) rfl rfl) trivial ?_
  refine S.effN rfl rfl (.nf (H2 := [.dead, .dead, .dead, .dead, .cells (E_TField r5.1)]) (.storeP sz43 (lk 0 rfl rfl) (lk 2 rfl rfl) rfl (.refl _) rfl .nil (by first | rfl | omega) .nil (ty_TField.fl r5.1) (fl_st (flL_c (show flen _ = 1 from rfl) (flL_c (show flen _ = 1 from rfl) (flL_c (show flen _ = 1 from rfl) (flL_c (ty_TCounter.fl (default : TCounter)) (flL_c (ty_TLock.fl (default : TLock)) (flL_c (show flen _ = 1 from rfl) flL_nil))))))) rfl) rfl rfl) trivial ?_
  refine S.sil 11 rfl rfl (fun _ hF => .assign (lk 1 rfl rfl)) ?_
  refine S.nil ?_
  refine thenQ_n ?_
  refine AWp.wk (Wk.freeze 4 rfl rfl (.same (lk 0 rfl rfl) (.cons (lk 1 rfl rfl) rfl (.ptr .nil (by first | rfl | omega)) (.same (lk 8 rfl rfl) (.same (lk 10 rfl rfl) (.same (lk 11 rfl rfl) (.same (lk 13 rfl rfl) (.same (lk 14 rfl rfl) .nil))))))) (.refl _)) ?_
  refine AWp.seq ?_
  refine W.reg [0, 1, 2, 3, 4, 5, 6] rfl ?_
  refine S.sil 41 rfl rfl (fun _ hF => .loadC sz43 ag43 (lk 1 rfl rfl) (ty_TField.fl r5.1) rfl) ?_
  obtain ⟨r6, m6, h⟩ := h.bnd
  refine S.sil 42 rfl rfl (fun _ hF => .callQ ent24 cF (.c (lk 0 rfl rfl) (V.sub.refl _) .nil) (C_field_View m6)) ?_
  refine S.sil 40 rfl rfl (fun _ hF => .move (lk 0 rfl rfl)) ?_
  refine S.sil 43 rfl rfl (fun _ hF => .extract (lk 0 rfl rfl) rfl) ?_
  refine S.sil 44 rfl rfl (fun _ hF => .extract (lk 1 rfl rfl) rfl) ?_
  refine S.sil 12 rfl rfl (fun _ hF => .assign (lk 1 rfl rfl)) ?_
  refine S.sil 13 rfl rfl (fun _ hF => .assign (lk 1 rfl rfl)) ?_
  refine S.nil ?_
  refine thenQ_n ?_
  refine AWp.seq ?_
  refine W.reg [0, 1, 2, 3, 4, 5, 6, 7, 8, 9, 10, 11, 12, 13, 14, 15, 16, 17, 18, 19, 20, 21, 22, 23, 24, 25, 26, 27, 28, 29, 30] rfl ?_
  refine S.sil 45 rfl rfl (fun _ hF => .move (lk 12 rfl rfl)) ?_
  refine S.sil 46 rfl rfl (fun _ hF => .eql (lk 0 rfl rfl) cI) ?_
  refine S.sil 47 rfl rfl (fun _ hF => .move (lk 0 rfl rfl)) ?_
  refine S.gsil 48 2 47 true rfl rfl rfl (lk 0 rfl rfl) (fun hB _ hF => .move (lk 14 rfl rfl)) ?_
  refine S.gsil 49 2 47 true rfl rfl rfl (lk 1 rfl rfl) (fun hB _ hF => .eql (ifT hB (lk 0 rfl rfl)) cI) ?_
  refine S.sil 50 rfl rfl (fun _ hF => .pickAnd (lk 2 rfl rfl) (fun h => ifT h (lk 0 rfl rfl)) cB) ?_
  refine S.sil 51 rfl rfl (fun _ hF => .move (lk 0 rfl rfl)) ?_
  refine S.gsil 52 6 51 true rfl rfl rfl (lk 0 rfl rfl) (fun hB _ hF => .move (lk 17 rfl rfl)) ?_
  refine S.gsil 53 6 51 true rfl rfl rfl (lk 1 rfl rfl) (fun hB _ hF => .eql (ifT hB (lk 0 rfl rfl)) cI) ?_
  obtain ⟨v7, ev7, h⟩ := h.nam
  refine S.sil 54 rfl rfl (fun _ hF => .nv (.pickAnd (lk 2 rfl rfl) (fun h => ifT h (lk 0 rfl rfl)) cB) (congrArg V.bool ev7.symm)) ?_
  refine S.sil 55 rfl rfl (fun _ hF => .move (lk 0 rfl rfl)) ?_
  refine S.gsil 56 10 55 true rfl rfl rfl (lk 0 rfl rfl) (fun hB _ hF => .move (lk 20 rfl rfl)) ?_
  refine S.gsil 57 10 55 true rfl rfl rfl (lk 1 rfl rfl) (fun hB _ hF => .eql (ifT hB (lk 0 rfl rfl)) cI) ?_
  refine S.sil 58 rfl rfl (fun _ hF => .pickAnd (lk 2 rfl rfl) (fun h => ifT h (lk 0 rfl rfl)) cB) ?_
  refine S.sil 59 rfl rfl (fun _ hF => .move (lk 0 rfl rfl)) ?_
  refine S.gsil 60 14 59 true rfl rfl rfl (lk 0 rfl rfl) (fun hB _ hF => .move (lk 22 rfl rfl)) ?_
  refine S.gsil 61 14 59 true rfl rfl rfl (lk 1 rfl rfl) (fun hB _ hF => .eql (ifT hB (lk 0 rfl rfl)) cI) ?_
  refine S.sil 62 rfl rfl (fun _ hF => .pickAnd (lk 2 rfl rfl) (fun h => ifT h (lk 0 rfl rfl)) cB) ?_
  refine S.sil 63 rfl rfl (fun _ hF => .move (lk 0 rfl rfl)) ?_
  refine S.gsil 64 18 63 true rfl rfl rfl (lk 0 rfl rfl) (fun hB _ hF => .move (lk 20 rfl rfl)) ?_
  refine S.gsil 65 18 63 true rfl rfl rfl (lk 1 rfl rfl) (fun hB _ hF => .eql (ifT hB (lk 0 rfl rfl)) cI) ?_
  obtain ⟨v8, ev8, h⟩ := h.nam
  refine S.sil 66 rfl rfl (fun _ hF => .nv (.pickAnd (lk 2 rfl rfl) (fun h => ifT h (lk 0 rfl rfl)) cB) (congrArg V.bool ev8.symm)) ?_
  refine S.sil 67 rfl rfl (fun _ hF => .move (lk 0 rfl rfl)) ?_
  refine S.gsil 68 22 67 true rfl rfl rfl (lk 0 rfl rfl) (fun hB _ hF => .move (lk 23 rfl rfl)) ?_
  refine S.gsil 69 22 67 true rfl rfl rfl (lk 1 rfl rfl) (fun hB _ hF => .eql (ifT hB (lk 0 rfl rfl)) cI) ?_
  refine S.sil 70 rfl rfl (fun _ hF => .pickAnd (lk 2 rfl rfl) (fun h => ifT h (lk 0 rfl rfl)) cB) ?_
  refine S.sil 71 rfl rfl (fun _ hF => .move (lk 0 rfl rfl)) ?_
  refine S.gsil 72 26 71 true rfl rfl rfl (lk 0 rfl rfl) (fun hB _ hF => .loadC sz43 ag43 (lk 35 rfl rfl) (ty_TField.fl r5.1) rfl) ?_
  obtain ⟨r9, m9, h⟩ := h.bnd
  refine S.gsil 73 26 71 true rfl rfl rfl (lk 1 rfl rfl) (fun hB _ hF => .callQ ent29 cF (.c (ifT hB (lk 0 rfl rfl)) (V.sub.refl _) .nil) (C_field_Right (gd_get m9 hB))) ?_
  refine S.sil 74 rfl rfl (fun _ hF => .pickAnd (lk 2 rfl rfl) (fun h => ifT h (lk 0 rfl rfl)) cB) ?_
  obtain ⟨v10, ev10, h⟩ := h.nam
  refine S.sil 0 rfl rfl (fun _ hF => .nv (.assign (lk 0 rfl rfl)) (congrArg V.bool ev10.symm)) ?_
  refine S.nil ?_
  refine thenQ_n ?_
  refine AWp.prune (.eq (lk 0 rfl rfl) rfl .nil) ?_
  refine AWp.ret ?_
  obtain rfl := h.ret
  exact endF1 rfl (Wk.selS [] .nil rfl (SelE.leaf (lk 0 rfl rfl) rfl (.refl _) (fun m => (TyOk.bool.lt _ _)) .nil) .nil) (.tmp (lk 0 rfl rfl) rfl) rfl rfl
theorem C_usufructref03_Free {a1 : TRights} {a2 : Int} {r : Int × Int} (h : usufructref03_Free a1 a2 = some r) : PureC Pg 68 [E_TRights a1, (V.int .i64) a2] (.tup [(V.int .i64) r.1, (V.int .i64) r.2]) := by
  refine PureC.ofF (CallSpec.of_bodyF 59 0 fn68 rfl rfl rfl (Nat.le_of_ble_eq_true rfl) ?_) (ltL_c (ty_TRights.lt _ _) (ltL_c ((TyOk.int .i64).lt _ _) ltL_nil)) (lt_tup (ltL_c ((TyOk.int .i64).lt _ _) (ltL_c ((TyOk.int .i64).lt _ _) ltL_nil)))
  replace h := Ok.of h
  unfold usufructref03_Free at h
  refine AWp.seq ?_
  refine W.reg [0, 1, 2] rfl ?_
  refine S.eff 2 rfl rfl (.nf (v2 := .ptr 0 [] 0) (H2 := [.cells (E_TRights a1)]) (.box (lk 0 rfl rfl) rfl) rfl rfl) trivial ?_
  refine S.sil 4 rfl rfl (fun _ hF => .assign cI) ?_
  refine S.sil 5 rfl rfl (fun _ hF => .assign cI) ?_
  refine S.nil ?_
  refine thenQ_n ?_
  refine AWp.wk (Wk.freeze 0 rfl rfl (.same (lk 0 rfl rfl) (.same (lk 1 rfl rfl) (.cons (lk 2 rfl rfl) rfl (.ptr .nil (by first | rfl | omega)) (.same (lk 4 rfl rfl) .nil)))) (.refl _)) ?_
  refine AWp.seq ?_
  refine AWp.seq ?_
  refine W.reg [0, 1, 2, 3, 4, 5] rfl ?_
  refine S.sil 9 rfl rfl (fun _ hF => .move (lk 3 rfl rfl)) ?_
  refine S.sil 10 rfl rfl (fun _ hF => .lss (lk 0 rfl rfl) cI) ?_
  refine S.sil 11 rfl rfl (fun _ hF => .move (lk 0 rfl rfl)) ?_
  refine S.gsil 12 2 11 false rfl rfl rfl (lk 0 rfl rfl) (fun hB _ hF => .move (lk 6 rfl rfl)) ?_
  refine S.gsil 13 2 11 false rfl rfl rfl (lk 1 rfl rfl) (fun hB _ hF => .gtr (ifT hB (lk 0 rfl rfl)) cI) ?_
  refine S.sil 14 rfl rfl (fun _ hF => .pickOr (lk 2 rfl rfl) cB (fun h => ifT h (lk 0 rfl rfl))) ?_
  refine S.nil ?_
  refine thenQ_n ?_
  refine AWp.condM (lk 0 rfl rfl) h (fun c1 h => ?_) (fun c1 h => ?_)
  · skip
    refine AWp.seq ?_
    refine W.reg [0, 1] rfl ?_
    refine S.sil 4 rfl rfl (fun _ hF => .assign cI) ?_
    refine S.sil 5 rfl rfl (fun _ hF => .assign cI) ?_
    refine S.nil ?_
    refine thenQ_n ?_
    refine AWp.ret ?_
    refine thenQ_r ?_
    obtain rfl := h.ret
    exact endFN rfl (Wk.selS [] .nil rfl (SelE.leaf (lk 1 rfl rfl) rfl (.refl _) (fun m => ((TyOk.int .i64).lt _ _)) (SelE.leaf (lk 0 rfl rfl) rfl (.refl _) (fun m => ((TyOk.int .i64).lt _ _)) .nil)) .nil) (.cons (.tmp (lk 0 rfl rfl) rfl) (.cons (.tmp (lk 1 rfl rfl) rfl) .nil)) rfl rfl rfl
  · skip
    refine AWp.skip ?_
    refine thenQ_n ?_
    refine AWp.seq ?_
    refine W.reg [0, 1, 2, 3, 4, 5] rfl ?_
    refine S.sil 15 rfl rfl (fun _ hF => .move (lk 9 rfl rfl)) ?_
    refine S.sil 16 rfl rfl (fun _ hF => .fieldAddrC lay36 rfl rfl (lk 9 rfl rfl) rfl flL_nil) ?_
    obtain ⟨k3, m3, h⟩ := h.bnd
    refine S.sil 17 rfl rfl (fun _ hF => .ixC arr33 (lk 0 rfl rfl) (lk 1 rfl rfl) m3) ?_
    refine S.sil 18 rfl rfl (fun _ hF => .loadC sz3 ag3 (lk 0 rfl rfl) rfl rfl) ?_
    refine S.sil 19 rfl rfl (fun _ hF => .buildSliceW sli68 zv3 rfl rfl (by decide) (.cons (lk 0 rfl rfl) rfl (.refl _) rfl .nil)) ?_
    refine S.sil 6 rfl rfl (fun _ hF => .assign (lk 0 rfl rfl)) ?_
    refine S.nil ?_
    refine thenQ_n ?_
    refine AWp.prune (.eq (lk 0 rfl rfl) rfl (.eq (lk 12 rfl rfl) rfl (.eq (lk 13 rfl rfl) rfl (.eq (lk 14 rfl rfl) rfl (.eq (lk 15 rfl rfl) rfl .nil))))) ?_
    refine AWp.seq ?_
    refine AWp.seq ?_
    refine W.reg [0] rfl ?_
    refine S.sil 7 rfl rfl (fun _ hF => .assign cI) ?_
    refine S.nil ?_
    refine thenQ_n ?_
    refine AWp.cutX (fun x6 => ⟨[(6, .sl 1 (.tok 0) (List.map (V.int .i64) x6)), (5, (V.int .i64) 0), (4, (V.int .i64) 0), (2, .cptr (E_TRights a1)), (1, (V.int .i64) a2)], [.tail]⟩) nc_then h (fun q4 hq4 => ?_) (fun x6 h => ?_)
    · refine AWp.block ?_
      refine AWp.loopT (fun s5 => ⟨[(7, (V.int .i64) s5.1), (6, .sl 1 (.tok 0) (List.map (V.int .i64) s5.2)), (5, (V.int .i64) 0), (4, (V.int .i64) 0), (2, .cptr (E_TRights a1)), (1, (V.int .i64) a2)], [.tail]⟩) hq4 (Wk.vacant.trans (Wk.selS [1] (by decide) rfl (SelE.leaf (lk 0 rfl rfl) rfl (.refl _) (fun m => ((TyOk.int .i64).lt _ _)) (SelE.spec (lk 1 rfl rfl) rfl (.tok _ _ _) (ren_sl (TyOk.int .i64) _) (lt_sl rfl ((TyOk.int .i64).ltm _ _)) (SelE.leaf (lk 2 rfl rfl) rfl (.refl _) (fun m => ((TyOk.int .i64).lt _ _)) (SelE.leaf (lk 3 rfl rfl) rfl (.refl _) (fun m => ((TyOk.int .i64).lt _ _)) (SelE.leaf (lk 4 rfl rfl) rfl (.refl _) (fun m => (lt_cptr (ty_TRights.lt _ _))) (SelE.leaf (lk 5 rfl rfl) rfl (.refl _) (fun m => ((TyOk.int .i64).lt _ _)) .nil)))))) (.cons rfl rfl trivial .nil))) (fun _ s5 h4 => ?_)
      rw [usufructref03_Free_L1] at h4
      refine AWp.seq ?_
      refine AWp.seq ?_
      refine W.reg [0, 1] rfl ?_
      refine S.sil 20 rfl rfl (fun _ hF => .move (lk 0 rfl rfl)) ?_
      refine S.sil 21 rfl rfl (fun _ hF => .lss (lk 0 rfl rfl) cI) ?_
      refine S.nil ?_
      refine thenQ_n ?_
      refine AWp.condM (lk 0 rfl rfl) h4 (fun c2 h4 => ?_) (fun c2 h4 => ?_)
      · skip
        refine AWp.skip ?_
        refine thenQ_n ?_
        refine AWp.seq ?_
        refine AWp.block ?_
        refine W.reg [0, 1, 2, 3, 4, 5, 6, 7, 8, 9] rfl ?_
        refine S.sil 24 rfl rfl (fun _ hF => .move (lk 3 rfl rfl)) ?_
        refine S.sil 25 rfl rfl (fun _ hF => .move (lk 3 rfl rfl)) ?_
        refine S.sil 26 rfl rfl (fun _ hF => .move (lk 9 rfl rfl)) ?_
        refine S.sil 27 rfl rfl (fun _ hF => .fieldAddrC lay36 rfl rfl (lk 9 rfl rfl) rfl (flL_c (ty_A16_i64.fl a1.Given) (flL_c (ty_A16_i64.fl a1.Used) flL_nil))) ?_
        obtain ⟨k7, m7, h4⟩ := h4.bnd
        refine S.sil 28 rfl rfl (fun _ hF => .ixC arr34 (lk 0 rfl rfl) (lk 2 rfl rfl) m7) ?_
        obtain ⟨k8, m8, h4⟩ := h4.bnd
        refine S.sil 29 rfl rfl (fun _ hF => .ixC arr33 (lk 0 rfl rfl) (lk 2 rfl rfl) m8) ?_
        refine S.sil 30 rfl rfl (fun _ hF => .loadC sz3 ag3 (lk 0 rfl rfl) rfl rfl) ?_
        refine S.sil 31 rfl rfl (fun _ hF => .buildSliceW sli68 zv3 rfl rfl (by decide) (.cons (lk 0 rfl rfl) rfl (.refl _) rfl .nil)) ?_
        obtain ⟨l9, m9, h4⟩ := h4.bnd
        refine S.eff 32 rfl rfl (.nf (v2 := .sl 1 (.tok 1) (List.map (V.int .i64) l9)) (H2 := [.dead, .tail]) (.appT sli68 und68 zv3 rfl (by decide) (lk 7 rfl rfl) rfl (lk 0 rfl rfl) Rd.sl m9 rfl) rfl rfl) trivial ?_
        refine S.sil 6 rfl rfl (fun _ hF => .assign (lk 0 rfl rfl)) ?_
        refine S.nil ?_
        refine blockQ_n ?_
        refine thenQ_n ?_
        refine W.reg [0, 1, 2] rfl ?_
        refine S.sil 22 rfl rfl (fun _ hF => .move (lk 12 rfl rfl)) ?_
        refine S.sil 23 rfl rfl (fun _ hF => .add (lk 0 rfl rfl) cI) ?_
        refine S.sil 7 rfl rfl (fun _ hF => .assign (lk 0 rfl rfl)) ?_
        refine S.nil ?_
        refine thenQ_n ?_
        exact ⟨_, h4.ret, (Wk.selS [1] (by decide) rfl (SelE.leaf (lk 0 rfl rfl) rfl (.refl _) (fun m => ((TyOk.int .i64).lt _ _)) (SelE.spec (lk 3 rfl rfl) rfl (.refl _) (ren_sl (TyOk.int .i64) _) (lt_sl rfl ((TyOk.int .i64).ltm _ _)) (SelE.leaf (lk 17 rfl rfl) rfl (.refl _) (fun m => ((TyOk.int .i64).lt _ _)) (SelE.leaf (lk 18 rfl rfl) rfl (.refl _) (fun m => ((TyOk.int .i64).lt _ _)) (SelE.leaf (lk 19 rfl rfl) rfl (.refl _) (fun m => (lt_cptr (ty_TRights.lt _ _))) (SelE.leaf (lk 20 rfl rfl) rfl (.refl _) (fun m => ((TyOk.int .i64).lt _ _)) .nil)))))) (.cons rfl rfl trivial .nil))⟩
      · skip
        refine AWp.exit ?_
        refine thenQ_x ?_
        refine thenQ_x ?_
        refine blockQ_x ?_
        refine thenQ_n ?_
        exact ⟨_, h4.ret, (Wk.selS [0] (by decide) rfl (SelE.spec (lk 3 rfl rfl) rfl (.refl _) (ren_sl (TyOk.int .i64) _) (lt_sl rfl ((TyOk.int .i64).ltm _ _)) (SelE.leaf (lk 4 rfl rfl) rfl (.refl _) (fun m => ((TyOk.int .i64).lt _ _)) (SelE.leaf (lk 5 rfl rfl) rfl (.refl _) (fun m => ((TyOk.int .i64).lt _ _)) (SelE.leaf (lk 6 rfl rfl) rfl (.refl _) (fun m => (lt_cptr (ty_TRights.lt _ _))) (SelE.leaf (lk 7 rfl rfl) rfl (.refl _) (fun m => ((TyOk.int .i64).lt _ _)) .nil))))) (.cons rfl rfl trivial .nil))⟩
    · skip
      refine thenQ_n ?_
      refine AWp.seq ?_
      refine W.reg [0, 1, 2, 3, 4, 5, 6, 7, 8] rfl ?_
      refine S.sil 33 rfl rfl (fun _ hF => .move (lk 0 rfl rfl)) ?_
      refine S.sil 34 rfl rfl (fun _ hF => .move (lk 5 rfl rfl)) ?_
      refine S.sil 35 rfl rfl (fun _ hF => .fieldAddrC lay36 rfl rfl (lk 5 rfl rfl) rfl (flL_c (ty_A16_i64.fl a1.Given) flL_nil)) ?_
      obtain ⟨k10, m10, h⟩ := h.bnd
      refine S.sil 36 rfl rfl (fun _ hF => .ixC arr33 (lk 0 rfl rfl) (lk 1 rfl rfl) m10) ?_
      refine S.sil 37 rfl rfl (fun _ hF => .loadC sz3 ag3 (lk 0 rfl rfl) rfl rfl) ?_
      refine S.sil 38 rfl rfl (fun _ hF => .sub cI (lk 0 rfl rfl)) ?_
      refine S.sil 39 rfl rfl (fun _ hF => .buildSliceW sli68 zv3 rfl rfl (by decide) (.cons (lk 0 rfl rfl) rfl (.refl _) rfl .nil)) ?_
      obtain ⟨l11, m11, h⟩ := h.bnd
      refine S.eff 40 rfl rfl (.nf (v2 := .sl 1 (.tok 1) (List.map (V.int .i64) l11)) (H2 := [.dead, .tail]) (.appT sli68 und68 zv3 rfl (by decide) (lk 6 rfl rfl) rfl (lk 0 rfl rfl) Rd.sl m11 rfl) rfl rfl) trivial ?_
      refine S.sil 6 rfl rfl (fun _ hF => .assign (lk 0 rfl rfl)) ?_
      refine S.nil ?_
      refine thenQ_n ?_
      refine AWp.seq ?_
      refine AWp.seq ?_
      refine W.reg [0] rfl ?_
      refine S.sil 8 rfl rfl (fun _ hF => .assign cI) ?_
      refine S.nil ?_
      refine thenQ_n ?_
      refine AWp.cutX (fun x14 => ⟨[(6, .sl 1 (.tok 0) (List.map (V.int .i64) x14)), (5, (V.int .i64) 0), (4, (V.int .i64) 0)], [.tail]⟩) nc_then h (fun q12 hq12 => ?_) (fun x14 h => ?_)
      · refine AWp.block ?_
        refine AWp.loopT (fun s13 => ⟨[(8, (V.int .i64) s13.1), (6, .sl 1 (.tok 0) (List.map (V.int .i64) s13.2)), (5, (V.int .i64) 0), (4, (V.int .i64) 0), (2, .cptr (E_TRights a1)), (1, (V.int .i64) a2)], [.tail]⟩) hq12 (Wk.selS [1] (by decide) rfl (SelE.leaf (lk 0 rfl rfl) rfl (.refl _) (fun m => ((TyOk.int .i64).lt _ _)) (SelE.spec (lk 1 rfl rfl) rfl (.refl _) (ren_sl (TyOk.int .i64) _) (lt_sl rfl ((TyOk.int .i64).ltm _ _)) (SelE.leaf (lk 11 rfl rfl) rfl (.refl _) (fun m => ((TyOk.int .i64).lt _ _)) (SelE.leaf (lk 12 rfl rfl) rfl (.refl _) (fun m => ((TyOk.int .i64).lt _ _)) (SelE.leaf (lk 13 rfl rfl) rfl (.refl _) (fun m => (lt_cptr (ty_TRights.lt _ _))) (SelE.leaf (lk 14 rfl rfl) rfl (.refl _) (fun m => ((TyOk.int .i64).lt _ _)) .nil)))))) (.cons rfl rfl trivial .nil)) (fun _ s13 h12 => ?_)
        rw [usufructref03_Free_L2] at h12
        refine AWp.seq ?_
        refine AWp.seq ?_
        refine W.reg [0, 1] rfl ?_
        refine S.sil 41 rfl rfl (fun _ hF => .move (lk 0 rfl rfl)) ?_
        refine S.sil 42 rfl rfl (fun _ hF => .lss (lk 0 rfl rfl) cI) ?_
        refine S.nil ?_
        refine thenQ_n ?_
        refine AWp.condM (lk 0 rfl rfl) h12 (fun c3 h12 => ?_) (fun c3 h12 => ?_)
        · skip
          refine AWp.skip ?_
          refine thenQ_n ?_
          refine AWp.seq ?_
          refine AWp.block ?_
          refine W.reg [0, 1, 2, 3, 4, 5, 6, 7, 8, 9, 10] rfl ?_
          refine S.sil 45 rfl rfl (fun _ hF => .move (lk 3 rfl rfl)) ?_
          refine S.sil 46 rfl rfl (fun _ hF => .move (lk 8 rfl rfl)) ?_
          refine S.sil 47 rfl rfl (fun _ hF => .move (lk 4 rfl rfl)) ?_
          refine S.sil 48 rfl rfl (fun _ hF => .fieldAddrC lay36 rfl rfl (lk 9 rfl rfl) rfl (flL_c (ty_A16_i64.fl a1.Given) (flL_c (ty_A16_i64.fl a1.Used) flL_nil))) ?_
          obtain ⟨k15, m15, h12⟩ := h12.bnd
          refine S.sil 49 rfl rfl (fun _ hF => .ixC arr34 (lk 0 rfl rfl) (lk 2 rfl rfl) m15) ?_
          obtain ⟨k16, m16, h12⟩ := h12.bnd
          refine S.sil 50 rfl rfl (fun _ hF => .ixC arr33 (lk 0 rfl rfl) (lk 2 rfl rfl) m16) ?_
          refine S.sil 51 rfl rfl (fun _ hF => .loadC sz3 ag3 (lk 0 rfl rfl) rfl rfl) ?_
          refine S.sil 52 rfl rfl (fun _ hF => .sub cI (lk 0 rfl rfl)) ?_
          refine S.sil 53 rfl rfl (fun _ hF => .buildSliceW sli68 zv3 rfl rfl (by decide) (.cons (lk 0 rfl rfl) rfl (.refl _) rfl .nil)) ?_
          obtain ⟨l17, m17, h12⟩ := h12.bnd
          refine S.eff 54 rfl rfl (.nf (v2 := .sl 1 (.tok 1) (List.map (V.int .i64) l17)) (H2 := [.dead, .tail]) (.appT sli68 und68 zv3 rfl (by decide) (lk 8 rfl rfl) rfl (lk 0 rfl rfl) Rd.sl m17 rfl) rfl rfl) trivial ?_
          refine S.sil 6 rfl rfl (fun _ hF => .assign (lk 0 rfl rfl)) ?_
          refine S.nil ?_
          refine blockQ_n ?_
          refine thenQ_n ?_
          refine W.reg [0, 1, 2] rfl ?_
          refine S.sil 43 rfl rfl (fun _ hF => .move (lk 13 rfl rfl)) ?_
          refine S.sil 44 rfl rfl (fun _ hF => .add (lk 0 rfl rfl) cI) ?_
          refine S.sil 8 rfl rfl (fun _ hF => .assign (lk 0 rfl rfl)) ?_
          refine S.nil ?_
          refine thenQ_n ?_
          exact ⟨_, h12.ret, (Wk.selS [1] (by decide) rfl (SelE.leaf (lk 0 rfl rfl) rfl (.refl _) (fun m => ((TyOk.int .i64).lt _ _)) (SelE.spec (lk 3 rfl rfl) rfl (.refl _) (ren_sl (TyOk.int .i64) _) (lt_sl rfl ((TyOk.int .i64).ltm _ _)) (SelE.leaf (lk 18 rfl rfl) rfl (.refl _) (fun m => ((TyOk.int .i64).lt _ _)) (SelE.leaf (lk 19 rfl rfl) rfl (.refl _) (fun m => ((TyOk.int .i64).lt _ _)) (SelE.leaf (lk 20 rfl rfl) rfl (.refl _) (fun m => (lt_cptr (ty_TRights.lt _ _))) (SelE.leaf (lk 21 rfl rfl) rfl (.refl _) (fun m => ((TyOk.int .i64).lt _ _)) .nil)))))) (.cons rfl rfl trivial .nil))⟩
        · skip
          refine AWp.exit ?_
          refine thenQ_x ?_
          refine thenQ_x ?_
          refine blockQ_x ?_
          refine thenQ_n ?_
          exact ⟨_, h12.ret, (Wk.selS [0] (by decide) rfl (SelE.spec (lk 3 rfl rfl) rfl (.refl _) (ren_sl (TyOk.int .i64) _) (lt_sl rfl ((TyOk.int .i64).ltm _ _)) (SelE.leaf (lk 4 rfl rfl) rfl (.refl _) (fun m => ((TyOk.int .i64).lt _ _)) (SelE.leaf (lk 5 rfl rfl) rfl (.refl _) (fun m => ((TyOk.int .i64).lt _ _)) .nil))) (.cons rfl rfl trivial .nil))⟩
      · skip
        refine thenQ_n ?_
        refine AWp.seq ?_
        refine W.reg [0, 1, 2, 3, 4, 5] rfl ?_
        refine S.sil 55 rfl rfl (fun _ hF => .move (lk 0 rfl rfl)) ?_
        obtain ⟨r18, m18, h⟩ := h.bnd
        refine S.sil 56 rfl rfl (fun _ hF => .callQ ent41 cF (.c (lk 0 rfl rfl) (vsub rfl (.forget _ _ _)) .nil) (C_usufructref01_Sum m18)) ?_
        refine S.sil 57 rfl rfl (fun _ hF => .extract (lk 0 rfl rfl) rfl) ?_
        refine S.sil 58 rfl rfl (fun _ hF => .extract (lk 1 rfl rfl) rfl) ?_
        refine S.sil 4 rfl rfl (fun _ hF => .assign (lk 1 rfl rfl)) ?_
        refine S.sil 5 rfl rfl (fun _ hF => .assign (lk 1 rfl rfl)) ?_
        refine S.nil ?_
        refine thenQ_n ?_
        refine AWp.ret ?_
        obtain rfl := h.ret
        exact endFN rfl (Wk.selS [] .nil rfl (SelE.leaf (lk 1 rfl rfl) rfl (.refl _) (fun m => ((TyOk.int .i64).lt _ _)) (SelE.leaf (lk 0 rfl rfl) rfl (.refl _) (fun m => ((TyOk.int .i64).lt _ _)) .nil)) .nil) (.cons (.tmp (lk 0 rfl rfl) rfl) (.cons (.tmp (lk 1 rfl rfl) rfl) .nil)) rfl rfl rfl
theorem C_usufructref06_Sum {a1 : List THold} {a2 : Int} {r : Int} (h : usufructref06_Sum a1 a2 = some r) : PureC Pg 69 [.sl 5 .no (List.map E_THold a1), (V.int .i64) a2] ((V.int .i64) r) := by
  refine PureC.ofF (CallSpec.of_bodyF 37 0 fn69 rfl rfl rfl (Nat.le_of_ble_eq_true rfl) ?_) (ltL_c (lt_sl rfl (ty_THold.ltm _ _)) (ltL_c ((TyOk.int .i64).lt _ _) ltL_nil)) ((TyOk.int .i64).lt _ _)
  replace h := Ok.of h
  unfold usufructref06_Sum at h
  refine AWp.seq ?_
  refine W.reg [0] rfl ?_
  refine S.sil 4 rfl rfl (fun _ hF => .assign cI) ?_
  refine S.nil ?_
  refine thenQ_n ?_
  refine AWp.seq ?_
  refine W.reg [0] rfl ?_
  refine S.sil 5 rfl rfl (fun _ hF => .assign cI) ?_
  refine S.nil ?_
  refine thenQ_n ?_
  refine AWp.seq ?_
  refine AWp.seq ?_
  refine W.reg [0] rfl ?_
  refine S.sil 6 rfl rfl (fun _ hF => .assign cI) ?_
  refine S.nil ?_
  refine thenQ_n ?_
  refine AWp.cutX (fun x5 => ⟨[(5, (V.int .i64) x5), (4, (V.int .i64) 0)], []⟩) nc_then h (fun q3 hq3 => ?_) (fun x5 h => ?_)
  · refine AWp.block ?_
    refine AWp.loopT (fun s4 => ⟨[(6, (V.int .i64) s4.1), (5, (V.int .i64) s4.2), (4, (V.int .i64) 0), (0, .sl 5 .no (List.map E_THold a1)), (1, (V.int .i64) a2)], []⟩) hq3 (Wk.selS [] (by decide) rfl (SelE.leaf (lk 0 rfl rfl) rfl (.refl _) (fun m => ((TyOk.int .i64).lt _ _)) (SelE.leaf (lk 1 rfl rfl) rfl (.refl _) (fun m => ((TyOk.int .i64).lt _ _)) (SelE.leaf (lk 2 rfl rfl) rfl (.refl _) (fun m => ((TyOk.int .i64).lt _ _)) (SelE.leaf (lk 3 rfl rfl) rfl (.refl _) (fun m => (lt_sl rfl (ty_THold.ltm _ _))) (SelE.leaf (lk 4 rfl rfl) rfl (.refl _) (fun m => ((TyOk.int .i64).lt _ _)) .nil))))) .nil) (fun _ s4 h3 => ?_)
    rw [usufructref06_Sum_L1] at h3
    refine AWp.seq ?_
    refine AWp.seq ?_
    refine W.reg [0, 1, 2, 3] rfl ?_
    refine S.sil 7 rfl rfl (fun _ hF => .move (lk 0 rfl rfl)) ?_
    refine S.sil 8 rfl rfl (fun _ hF => .move (lk 4 rfl rfl)) ?_
    refine S.sil 9 rfl rfl (fun _ hF => .lenT sli41 (lk 0 rfl rfl) (vsub rfl (.refl _))) ?_
    refine S.sil 10 rfl rfl (fun _ hF => .lss (lk 2 rfl rfl) (lk 0 rfl rfl)) ?_
    refine S.nil ?_
    refine thenQ_n ?_
    refine AWp.condM (lk 0 rfl rfl) h3 (fun c1 h3 => ?_) (fun c1 h3 => ?_)
    · skip
      refine AWp.skip ?_
      refine thenQ_n ?_
      refine AWp.seq ?_
      refine AWp.block ?_
      refine AWp.seq ?_
      refine W.reg [0, 1, 2, 3, 4, 5, 6, 7, 8, 9, 10, 11, 12, 13, 14] rfl ?_
      refine S.sil 13 rfl rfl (fun _ hF => .move (lk 7 rfl rfl)) ?_
      refine S.sil 14 rfl rfl (fun _ hF => .move (lk 5 rfl rfl)) ?_
      obtain ⟨j6, m6, h3⟩ := h3.bnd
      refine S.sil 15 rfl rfl (fun _ hF => .ixS sli41 (lk 1 rfl rfl) (lk 0 rfl rfl) m6) ?_
      refine S.sil 16 rfl rfl (fun _ hF => .fieldAddrC lay81 rfl rfl (lk 0 rfl rfl) rfl flL_nil) ?_
      refine S.sil 17 rfl rfl (fun _ hF => .loadC sz3 ag3 (lk 0 rfl rfl) rfl rfl) ?_
      refine S.sil 18 rfl rfl (fun _ hF => .move (lk 13 rfl rfl)) ?_
      refine S.sil 19 rfl rfl (fun _ hF => .eql (lk 1 rfl rfl) (lk 0 rfl rfl)) ?_
      refine S.sil 20 rfl rfl (fun _ hF => .move (lk 0 rfl rfl)) ?_
      refine S.gsil 21 7 20 true rfl rfl rfl (lk 0 rfl rfl) (fun hB _ hF => .move (lk 15 rfl rfl)) ?_
      refine S.gsil 22 7 20 true rfl rfl rfl (lk 1 rfl rfl) (fun hB _ hF => .move (lk 13 rfl rfl)) ?_
      obtain ⟨j7, m7, h3⟩ := h3.bnd
      refine S.gsil 23 7 20 true rfl rfl rfl (lk 2 rfl rfl) (fun hB _ hF => .ixS sli41 (ifT hB (lk 1 rfl rfl)) (ifT hB (lk 0 rfl rfl)) (gd_get m7 hB)) ?_
      refine S.gsil 24 7 20 true rfl rfl rfl (lk 3 rfl rfl) (fun hB _ hF => .fieldAddrC lay81 rfl rfl (ifT hB (lk 0 rfl rfl)) rfl (flL_c (show flen _ = 1 from rfl) (flL_c (show flen _ = 1 from rfl) (flL_c (show flen _ = 1 from rfl) (flL_c (show flen _ = 1 from rfl) flL_nil))))) ?_
      refine S.gsil 25 7 20 true rfl rfl rfl (lk 4 rfl rfl) (fun hB _ hF => .loadC sz3 ag3 (ifT hB (lk 0 rfl rfl)) rfl rfl) ?_
      refine S.gsil 26 7 20 true rfl rfl rfl (lk 5 rfl rfl) (fun hB _ hF => .eql (ifT hB (lk 0 rfl rfl)) cI) ?_
      obtain ⟨v8, ev8, h3⟩ := h3.nam
      refine S.sil 27 rfl rfl (fun _ hF => .nv (.pickAnd (lk 6 rfl rfl) (fun h => ifT h (lk 0 rfl rfl)) cB) (congrArg V.bool ev8.symm)) ?_
      refine S.nil ?_
      refine thenQ_n ?_
      refine AWp.condM (lk 0 rfl rfl) h3 (fun c2 h3 => ?_) (fun c2 h3 => ?_)
      · skip
        refine W.reg [0, 1, 2, 3, 4, 5, 6, 7, 8] rfl ?_
        refine S.sil 28 rfl rfl (fun _ hF => .move (lk 20 rfl rfl)) ?_
        refine S.sil 29 rfl rfl (fun _ hF => .move (lk 23 rfl rfl)) ?_
        refine S.sil 30 rfl rfl (fun _ hF => .move (lk 21 rfl rfl)) ?_
        obtain ⟨j9, m9, h3⟩ := h3.bnd
        refine S.sil 31 rfl rfl (fun _ hF => .ixS sli41 (lk 1 rfl rfl) (lk 0 rfl rfl) m9) ?_
        refine S.sil 32 rfl rfl (fun _ hF => .fieldAddrC lay81 rfl rfl (lk 0 rfl rfl) rfl (flL_c (show flen _ = 1 from rfl) (flL_c (show flen _ = 1 from rfl) flL_nil))) ?_
        refine S.sil 33 rfl rfl (fun _ hF => .loadC sz3 ag3 (lk 0 rfl rfl) rfl rfl) ?_
        refine S.sil 34 rfl rfl (fun _ hF => .add (lk 5 rfl rfl) (lk 0 rfl rfl)) ?_
        refine S.sil 35 rfl rfl (fun _ hF => .bmin (lk 0 rfl rfl) cI) ?_
        obtain ⟨v10, ev10, h3⟩ := h3.nam
        refine S.sil 5 rfl rfl (fun _ hF => .nv (.assign (lk 0 rfl rfl)) (congrArg (V.int .i64) ev10.symm)) ?_
        refine S.nil ?_
        refine blockQ_n ?_
        refine thenQ_n ?_
        refine W.reg [0, 1, 2] rfl ?_
        refine S.sil 11 rfl rfl (fun _ hF => .move (lk 28 rfl rfl)) ?_
        refine S.sil 12 rfl rfl (fun _ hF => .add (lk 0 rfl rfl) cI) ?_
        refine S.sil 6 rfl rfl (fun _ hF => .assign (lk 0 rfl rfl)) ?_
        refine S.nil ?_
        refine thenQ_n ?_
        exact ⟨_, h3.ret, (Wk.selS [] (by decide) rfl (SelE.leaf (lk 0 rfl rfl) rfl (.refl _) (fun m => ((TyOk.int .i64).lt _ _)) (SelE.leaf (lk 3 rfl rfl) rfl (.refl _) (fun m => ((TyOk.int .i64).lt _ _)) (SelE.leaf (lk 33 rfl rfl) rfl (.refl _) (fun m => ((TyOk.int .i64).lt _ _)) (SelE.leaf (lk 34 rfl rfl) rfl (.refl _) (fun m => (lt_sl rfl (ty_THold.ltm _ _))) (SelE.leaf (lk 35 rfl rfl) rfl (.refl _) (fun m => ((TyOk.int .i64).lt _ _)) .nil))))) .nil)⟩
      · skip
        refine AWp.skip ?_
        refine blockQ_n ?_
        refine thenQ_n ?_
        refine W.reg [0, 1, 2] rfl ?_
        refine S.sil 11 rfl rfl (fun _ hF => .move (lk 19 rfl rfl)) ?_
        refine S.sil 12 rfl rfl (fun _ hF => .add (lk 0 rfl rfl) cI) ?_
        refine S.sil 6 rfl rfl (fun _ hF => .assign (lk 0 rfl rfl)) ?_
        refine S.nil ?_
        refine thenQ_n ?_
        exact ⟨_, h3.ret, (Wk.selS [] (by decide) rfl (SelE.leaf (lk 0 rfl rfl) rfl (.refl _) (fun m => ((TyOk.int .i64).lt _ _)) (SelE.leaf (lk 23 rfl rfl) rfl (.refl _) (fun m => ((TyOk.int .i64).lt _ _)) (SelE.leaf (lk 24 rfl rfl) rfl (.refl _) (fun m => ((TyOk.int .i64).lt _ _)) (SelE.leaf (lk 25 rfl rfl) rfl (.refl _) (fun m => (lt_sl rfl (ty_THold.ltm _ _))) (SelE.leaf (lk 26 rfl rfl) rfl (.refl _) (fun m => ((TyOk.int .i64).lt _ _)) .nil))))) .nil)⟩
    · skip
      refine AWp.exit ?_
      refine thenQ_x ?_
      refine thenQ_x ?_
      refine blockQ_x ?_
      refine thenQ_n ?_
      exact ⟨_, h3.ret, (Wk.selS [] (by decide) rfl (SelE.leaf (lk 5 rfl rfl) rfl (.refl _) (fun m => ((TyOk.int .i64).lt _ _)) (SelE.leaf (lk 6 rfl rfl) rfl (.refl _) (fun m => ((TyOk.int .i64).lt _ _)) .nil)) .nil)⟩
  · skip
    refine thenQ_n ?_
    refine AWp.seq ?_
    refine W.reg [0, 1] rfl ?_
    refine S.sil 36 rfl rfl (fun _ hF => .move (lk 0 rfl rfl)) ?_
    refine S.sil 4 rfl rfl (fun _ hF => .assign (lk 0 rfl rfl)) ?_
    refine S.nil ?_
    refine thenQ_n ?_
    refine AWp.ret ?_
    obtain rfl := h.ret
    exact endF1 rfl (Wk.selS [] .nil rfl (SelE.leaf (lk 0 rfl rfl) rfl (.refl _) (fun m => ((TyOk.int .i64).lt _ _)) .nil) .nil) (.tmp (lk 0 rfl rfl) rfl) rfl rfl
theorem C_usufructref07_Loose {a1 : TField} {a2 : Int} {r : Int × Int} (h : usufructref07_Loose a1 a2 = some r) : PureC Pg 28 [E_TField a1, (V.int .i64) a2] (.tup [(V.int .i64) r.1, (V.int .i64) r.2]) := by
  refine PureC.ofF (CallSpec.of_bodyF 36 0 fn28 rfl rfl rfl (Nat.le_of_ble_eq_true rfl) ?_) (ltL_c (ty_TField.lt _ _) (ltL_c ((TyOk.int .i64).lt _ _) ltL_nil)) (lt_tup (ltL_c ((TyOk.int .i64).lt _ _) (ltL_c ((TyOk.int .i64).lt _ _) ltL_nil)))
  replace h := Ok.of h
  unfold usufructref07_Loose at h
  refine AWp.seq ?_
  refine W.reg [0, 1, 2] rfl ?_
  refine S.eff 2 rfl rfl (.nf (v2 := .ptr 0 [] 0) (H2 := [.cells (E_TField a1)]) (.box (lk 0 rfl rfl) rfl) rfl rfl) trivial ?_
  refine S.sil 4 rfl rfl (fun _ hF => .assign cI) ?_
  refine S.sil 5 rfl rfl (fun _ hF => .assign cI) ?_
  refine S.nil ?_
  refine thenQ_n ?_
  refine AWp.wk (Wk.freeze 0 rfl rfl (.same (lk 0 rfl rfl) (.same (lk 1 rfl rfl) (.cons (lk 2 rfl rfl) rfl (.ptr .nil (by first | rfl | omega)) (.same (lk 4 rfl rfl) .nil)))) (.refl _)) ?_
  refine AWp.seq ?_
  refine AWp.seq ?_
  refine W.reg [0, 1, 2] rfl ?_
  refine S.sil 10 rfl rfl (fun _ hF => .fieldAddrC lay43 rfl rfl (lk 2 rfl rfl) rfl (flL_c (show flen _ = 1 from rfl) flL_nil)) ?_
  refine S.sil 11 rfl rfl (fun _ hF => .loadC sz3 ag3 (lk 0 rfl rfl) rfl rfl) ?_
  refine S.sil 12 rfl rfl (fun _ hF => .neq (lk 0 rfl rfl) cI) ?_
  refine S.nil ?_
  refine thenQ_n ?_
  refine AWp.condM (lk 0 rfl rfl) h (fun c1 h => ?_) (fun c1 h => ?_)
  · skip
    refine AWp.seq ?_
    refine W.reg [0, 1] rfl ?_
    refine S.sil 4 rfl rfl (fun _ hF => .assign cI) ?_
    refine S.sil 5 rfl rfl (fun _ hF => .assign cI) ?_
    refine S.nil ?_
    refine thenQ_n ?_
    refine AWp.ret ?_
    refine thenQ_r ?_
    obtain rfl := h.ret
    exact endFN rfl (Wk.selS [] .nil rfl (SelE.leaf (lk 1 rfl rfl) rfl (.refl _) (fun m => ((TyOk.int .i64).lt _ _)) (SelE.leaf (lk 0 rfl rfl) rfl (.refl _) (fun m => ((TyOk.int .i64).lt _ _)) .nil)) .nil) (.cons (.tmp (lk 0 rfl rfl) rfl) (.cons (.tmp (lk 1 rfl rfl) rfl) .nil)) rfl rfl rfl
  · skip
    refine AWp.skip ?_
    refine thenQ_n ?_
    refine AWp.seq ?_
    refine W.reg [0, 1, 2, 3, 4, 5, 6, 7, 8, 9] rfl ?_
    refine S.sil 14 rfl rfl (fun _ hF => .fieldAddrC lay43 rfl rfl (lk 5 rfl rfl) rfl (flL_c (show flen _ = 1 from rfl) (flL_c (show flen _ = 1 from rfl) (flL_c (show flen _ = 1 from rfl) flL_nil)))) ?_
    refine S.sil 15 rfl rfl (fun _ hF => .fieldAddrC lay38 rfl rfl (lk 0 rfl rfl) rfl (flL_c (show flen _ = 1 from rfl) (flL_c (show flen _ = 1 from rfl) (flL_c (show flen _ = 1 from rfl) flL_nil)))) ?_
    refine S.sil 16 rfl rfl (fun _ hF => .loadC sz36 ag36 (lk 0 rfl rfl) (ty_TRights.fl a1.Counter.Down) rfl) ?_
    refine S.sil 17 rfl rfl (fun _ hF => .move (lk 9 rfl rfl)) ?_
    obtain ⟨r3, m3, h⟩ := h.bnd
    refine S.sil 18 rfl rfl (fun _ hF => .callQ ent68 cF (.c (lk 1 rfl rfl) (V.sub.refl _) (.c (lk 0 rfl rfl) (V.sub.refl _) .nil)) (C_usufructref03_Free m3)) ?_
    refine S.sil 13 rfl rfl (fun _ hF => .move (lk 0 rfl rfl)) ?_
    refine S.sil 19 rfl rfl (fun _ hF => .extract (lk 0 rfl rfl) rfl) ?_
    refine S.sil 20 rfl rfl (fun _ hF => .extract (lk 1 rfl rfl) rfl) ?_
    refine S.sil 6 rfl rfl (fun _ hF => .assign (lk 1 rfl rfl)) ?_
    refine S.sil 7 rfl rfl (fun _ hF => .assign (lk 1 rfl rfl)) ?_
    refine S.nil ?_
    refine thenQ_n ?_
    refine AWp.prune (.eq (lk 1 rfl rfl) rfl (.eq (lk 13 rfl rfl) rfl (.eq (lk 14 rfl rfl) rfl (.eq (lk 15 rfl rfl) rfl (.eq (lk 16 rfl rfl) rfl .nil))))) ?_
    refine AWp.seq ?_
    refine W.reg [0, 1, 2, 3, 4, 5, 6, 7, 8, 9] rfl ?_
    refine S.sil 22 rfl rfl (fun _ hF => .fieldAddrC lay43 rfl rfl (lk 3 rfl rfl) rfl (flL_c (show flen _ = 1 from rfl) (flL_c (show flen _ = 1 from rfl) (flL_c (show flen _ = 1 from rfl) flL_nil)))) ?_
    refine S.sil 23 rfl rfl (fun _ hF => .fieldAddrC lay38 rfl rfl (lk 0 rfl rfl) rfl (flL_c (show flen _ = 1 from rfl) (flL_c (show flen _ = 1 from rfl) (flL_c (show flen _ = 1 from rfl) (flL_c (ty_TRights.fl a1.Counter.Down) flL_nil))))) ?_
    refine S.sil 24 rfl rfl (fun _ hF => .loadC sz36 ag36 (lk 0 rfl rfl) (ty_TRights.fl a1.Counter.Up) rfl) ?_
    refine S.sil 25 rfl rfl (fun _ hF => .move (lk 7 rfl rfl)) ?_
    obtain ⟨r4, m4, h⟩ := h.bnd
    refine S.sil 26 rfl rfl (fun _ hF => .callQ ent68 cF (.c (lk 1 rfl rfl) (V.sub.refl _) (.c (lk 0 rfl rfl) (V.sub.refl _) .nil)) (C_usufructref03_Free m4)) ?_
    refine S.sil 21 rfl rfl (fun _ hF => .move (lk 0 rfl rfl)) ?_
    refine S.sil 27 rfl rfl (fun _ hF => .extract (lk 0 rfl rfl) rfl) ?_
    refine S.sil 28 rfl rfl (fun _ hF => .extract (lk 1 rfl rfl) rfl) ?_
    refine S.sil 8 rfl rfl (fun _ hF => .assign (lk 1 rfl rfl)) ?_
    refine S.sil 9 rfl rfl (fun _ hF => .assign (lk 1 rfl rfl)) ?_
    refine S.nil ?_
    refine thenQ_n ?_
    refine AWp.seq ?_
    refine W.reg [0, 1, 2, 3, 4, 5, 6, 7, 8] rfl ?_
    refine S.sil 29 rfl rfl (fun _ hF => .move (lk 10 rfl rfl)) ?_
    refine S.sil 30 rfl rfl (fun _ hF => .fieldAddrC lay43 rfl rfl (lk 14 rfl rfl) rfl (flL_c (show flen _ = 1 from rfl) (flL_c (show flen _ = 1 from rfl) (flL_c (show flen _ = 1 from rfl) (flL_c (ty_TCounter.fl a1.Counter) (flL_c (ty_TLock.fl a1.Lock) flL_nil)))))) ?_
    refine S.sil 31 rfl rfl (fun _ hF => .loadC sz41 ag41 (lk 0 rfl rfl) rfl rfl) ?_
    refine S.sil 32 rfl rfl (fun _ hF => .move (lk 17 rfl rfl)) ?_
    obtain ⟨r5, m5, h⟩ := h.bnd
    refine S.sil 33 rfl rfl (fun _ hF => .callQ ent69 cF (.c (lk 1 rfl rfl) (V.sub.refl _) (.c (lk 0 rfl rfl) (V.sub.refl _) .nil)) (C_usufructref06_Sum m5)) ?_
    refine S.sil 34 rfl rfl (fun _ hF => .sub (lk 4 rfl rfl) (lk 0 rfl rfl)) ?_
    refine S.sil 35 rfl rfl (fun _ hF => .move (lk 7 rfl rfl)) ?_
    refine S.sil 4 rfl rfl (fun _ hF => .assign (lk 1 rfl rfl)) ?_
    refine S.sil 5 rfl rfl (fun _ hF => .assign (lk 1 rfl rfl)) ?_
    refine S.nil ?_
    refine thenQ_n ?_
    refine AWp.prune (.eq (lk 0 rfl rfl) rfl (.eq (lk 1 rfl rfl) rfl .nil)) ?_
    refine AWp.ret ?_
    obtain rfl := h.ret
    exact endFN rfl (Wk.selS [] .nil rfl (SelE.leaf (lk 1 rfl rfl) rfl (.refl _) (fun m => ((TyOk.int .i64).lt _ _)) (SelE.leaf (lk 0 rfl rfl) rfl (.refl _) (fun m => ((TyOk.int .i64).lt _ _)) .nil)) .nil) (.cons (.tmp (lk 0 rfl rfl) rfl) (.cons (.tmp (lk 1 rfl rfl) rfl) .nil)) rfl rfl rfl
theorem C_usufructref06_Put {a1 : List THold} {a2 : THold} {r : (List THold)} (h : usufructref06_Put a1 a2 = some r) : PureC Pg 118 [.sl 5 .no (List.map E_THold a1), E_THold a2] (E_S_THold r) := by
  refine PureC.ofF (CallSpec.of_bodyF 35 0 fn118 rfl rfl rfl (Nat.le_of_ble_eq_true rfl) ?_) (ltL_c (lt_sl rfl (ty_THold.ltm _ _)) (ltL_c (ty_THold.lt _ _) ltL_nil)) (ty_S_THold.lt _ _)
  replace h := Ok.of h
  unfold usufructref06_Put at h
  refine AWp.seq ?_
  refine W.reg [0, 1] rfl ?_
  refine S.eff 3 rfl rfl (.nf (v2 := .ptr 0 [] 0) (H2 := [.cells (E_THold a2)]) (.box (lk 1 rfl rfl) rfl) rfl rfl) trivial ?_
  refine S.sil 4 rfl rfl (fun _ hF => .assign cNs) ?_
  refine S.nil ?_
  refine thenQ_n ?_
  refine AWp.wk (Wk.freeze 0 rfl rfl (.same (lk 0 rfl rfl) (.cons (lk 1 rfl rfl) rfl (.ptr .nil (by first | rfl | omega)) (.same (lk 2 rfl rfl) .nil))) (.refl _)) ?_
  refine AWp.seq ?_
  refine W.reg [0] rfl ?_
  refine S.sil 5 rfl rfl (fun _ hF => .assign cI) ?_
  refine S.nil ?_
  refine thenQ_n ?_
  refine AWp.seq ?_
  refine AWp.cutX (fun x5 => ⟨[(5, (V.int .i64) x5), (4, .nils), (3, .cptr (E_THold a2)), (0, .sl 5 .no (List.map E_THold a1))], []⟩) nc_then h (fun q3 hq3 => ?_) (fun x5 h => ?_)
  · refine AWp.block ?_
    refine AWp.loopT (fun s4 => ⟨[(5, (V.int .i64) s4), (4, .nils), (3, .cptr (E_THold a2)), (0, .sl 5 .no (List.map E_THold a1))], []⟩) hq3 (Wk.selS [] (by decide) rfl (SelE.leaf (lk 0 rfl rfl) rfl (.refl _) (fun m => ((TyOk.int .i64).lt _ _)) (SelE.leaf (lk 1 rfl rfl) rfl (.refl _) (fun m => rfl) (SelE.leaf (lk 2 rfl rfl) rfl (.refl _) (fun m => (lt_cptr (ty_THold.lt _ _))) (SelE.leaf (lk 3 rfl rfl) rfl (.refl _) (fun m => (lt_sl rfl (ty_THold.ltm _ _))) .nil)))) .nil) (fun _ s4 h3 => ?_)
    rw [usufructref06_Put_L1] at h3
    refine AWp.seq ?_
    refine AWp.seq ?_
    refine W.regD [0, 1, 2, 3, 4, 5, 6, 7, 8, 9, 10, 11] mixed ?_
    refine S.sil 7 rfl rfl (fun _ hF => .move (lk 0 rfl rfl)) ?_
    refine S.sil 8 rfl rfl (fun _ hF => .move (lk 4 rfl rfl)) ?_
    refine S.sil 9 rfl rfl (fun _ hF => .lenT sli41 (lk 0 rfl rfl) (vsub rfl (.refl _))) ?_
    refine S.sil 10 rfl rfl (fun _ hF => .lss (lk 2 rfl rfl) (lk 0 rfl rfl)) ?_
    refine S.sil 11 rfl rfl (fun _ hF => .move (lk 0 rfl rfl)) ?_
    refine S.gsil 12 4 11 true rfl rfl rfl (lk 0 rfl rfl) (fun hB _ hF => .move (lk 8 rfl rfl)) ?_
    refine S.gsil 13 4 11 true rfl rfl rfl (lk 1 rfl rfl) (fun hB _ hF => .move (lk 6 rfl rfl)) ?_
    obtain ⟨j6, m6, h3⟩ := h3.bnd
    refine S.gsil 14 4 11 true rfl rfl rfl (lk 2 rfl rfl) (fun hB _ hF => .ixS sli41 (ifT hB (lk 1 rfl rfl)) (ifT hB (lk 0 rfl rfl)) (gd_get m6 hB)) ?_
    refine S.gsil 15 4 11 true rfl rfl rfl (lk 3 rfl rfl) (fun hB _ hF => .loadC sz81 ag81 (ifT hB (lk 0 rfl rfl)) (ty_THold.fl (a1.getD j6 default)) rfl) ?_
    refine S.gsil 16 4 11 true rfl rfl rfl (lk 4 rfl rfl) (fun hB _ hF => .loadC sz81 ag81 (lk 11 rfl rfl) (ty_THold.fl a2) rfl) ?_
    obtain ⟨r7, m7, h3⟩ := h3.bnd
    refine S.gsil 17 4 11 true rfl rfl rfl (lk 5 rfl rfl) (fun hB _ hF => .callQ ent110 cF (.c (ifT hB (lk 1 rfl rfl)) (V.sub.refl _) (.c (ifT hB (lk 0 rfl rfl)) (V.sub.refl _) .nil)) (C_usufructref06_Ahead (gd_get m7 hB))) ?_
    refine S.sil 18 rfl rfl (fun _ hF => .pickAnd (lk 6 rfl rfl) (fun h => ifT h (lk 0 rfl rfl)) cB) ?_
    refine S.nilD (by kernel_rfl) ?_
    refine thenQ_n ?_
    refine AWp.condM (lk 0 rfl rfl) h3 (fun c1 h3 => ?_) (fun c1 h3 => ?_)
    · skip
      refine AWp.skip ?_
      refine thenQ_n ?_
      refine AWp.block ?_
      refine W.reg [0, 1, 2] rfl ?_
      refine S.sil 19 rfl rfl (fun _ hF => .move (lk 12 rfl rfl)) ?_
      refine S.sil 20 rfl rfl (fun _ hF => .add (lk 0 rfl rfl) cI) ?_
      refine S.sil 5 rfl rfl (fun _ hF => .assign (lk 0 rfl rfl)) ?_
      refine S.nil ?_
      refine blockQ_n ?_
      refine thenQ_n ?_
      exact ⟨_, h3.ret, (Wk.selS [] (by decide) rfl (SelE.leaf (lk 0 rfl rfl) rfl (.refl _) (fun m => ((TyOk.int .i64).lt _ _)) (SelE.leaf (lk 16 rfl rfl) rfl (.refl _) (fun m => rfl) (SelE.leaf (lk 17 rfl rfl) rfl (.refl _) (fun m => (lt_cptr (ty_THold.lt _ _))) (SelE.leaf (lk 18 rfl rfl) rfl (.refl _) (fun m => (lt_sl rfl (ty_THold.ltm _ _))) .nil)))) .nil)⟩
    · skip
      refine AWp.exit ?_
      refine thenQ_x ?_
      refine thenQ_x ?_
      refine blockQ_x ?_
      refine thenQ_n ?_
      exact ⟨_, h3.ret, (Wk.selS [] (by decide) rfl (SelE.leaf (lk 12 rfl rfl) rfl (.refl _) (fun m => ((TyOk.int .i64).lt _ _)) (SelE.leaf (lk 13 rfl rfl) rfl (.refl _) (fun m => rfl) (SelE.leaf (lk 14 rfl rfl) rfl (.refl _) (fun m => (lt_cptr (ty_THold.lt _ _))) (SelE.leaf (lk 15 rfl rfl) rfl (.refl _) (fun m => (lt_sl rfl (ty_THold.ltm _ _))) .nil)))) .nil)⟩
  · skip
    refine thenQ_n ?_
    refine AWp.seq ?_
    refine W.reg [0, 1, 2, 3, 4, 5] rfl ?_
    refine S.sil 21 rfl rfl (fun _ hF => .buildSliceW sli41 zv81 rfl rfl (by decide) .nil) ?_
    refine S.sil 22 rfl rfl (fun _ hF => .move (lk 4 rfl rfl)) ?_
    refine S.sil 23 rfl rfl (fun _ hF => .move (lk 2 rfl rfl)) ?_
    obtain ⟨l8, m8, h⟩ := h.bnd
    refine S.sil 24 rfl rfl (fun _ hF => .slice_nsn sli41 (lk 1 rfl rfl) (lk 0 rfl rfl) m8) ?_
    obtain ⟨l9, m9, h⟩ := h.bnd
    refine S.eff 25 rfl rfl (.nf (v2 := .sl 5 (.tok 0) (List.map E_THold l9)) (H2 := [.tail]) (.appX sli41 und41 zv81 rfl (by decide) (lk 3 rfl rfl) (V.sub.refl _) (lk 0 rfl rfl) Rd.sl m9 rfl) rfl rfl) trivial ?_
    refine S.sil 6 rfl rfl (fun _ hF => .assign (lk 0 rfl rfl)) ?_
    refine S.nil ?_
    refine thenQ_n ?_
    refine AWp.seq ?_
    refine W.reg [0, 1, 2, 3, 4] rfl ?_
    refine S.sil 26 rfl rfl (fun _ hF => .move (lk 0 rfl rfl)) ?_
    refine S.sil 27 rfl rfl (fun _ hF => .loadC sz81 ag81 (lk 9 rfl rfl) (ty_THold.fl a2) rfl) ?_
    refine S.sil 28 rfl rfl (fun _ hF => .buildSliceW sli41 zv81 rfl rfl (by decide) (.cons (lk 0 rfl rfl) rfl (.refl _) (ty_THold.fl a2) .nil)) ?_
    obtain ⟨l10, m10, h⟩ := h.bnd
    refine S.eff 29 rfl rfl (.nf (v2 := .sl 5 (.tok 1) (List.map E_THold l10)) (H2 := [.dead, .tail]) (.appT sli41 und41 zv81 rfl (by decide) (lk 2 rfl rfl) rfl (lk 0 rfl rfl) Rd.sl m10 rfl) rfl rfl) trivial ?_
    refine S.sil 6 rfl rfl (fun _ hF => .assign (lk 0 rfl rfl)) ?_
    refine S.nil ?_
    refine thenQ_n ?_
    refine AWp.prune (.eq (lk 0 rfl rfl) rfl (.eq (lk 11 rfl rfl) rfl (.eq (lk 12 rfl rfl) rfl (.eq (lk 14 rfl rfl) rfl .nil)))) ?_
    refine AWp.seq ?_
    refine W.reg [0, 1, 2, 3, 4, 5] rfl ?_
    refine S.sil 30 rfl rfl (fun _ hF => .move (lk 0 rfl rfl)) ?_
    refine S.sil 31 rfl rfl (fun _ hF => .move (lk 4 rfl rfl)) ?_
    refine S.sil 32 rfl rfl (fun _ hF => .move (lk 3 rfl rfl)) ?_
    obtain ⟨l11, m11, h⟩ := h.bnd
    refine S.sil 33 rfl rfl (fun _ hF => .slice_snn sli41 (lk 1 rfl rfl) (lk 0 rfl rfl) m11) ?_
    obtain ⟨l12, m12, h⟩ := h.bnd
    refine S.eff 34 rfl rfl (.nf (v2 := .sl 5 (.tok 2) (List.map E_THold l12)) (H2 := [.dead, .dead, .tail]) (.appT sli41 und41 zv81 rfl (by decide) (lk 3 rfl rfl) rfl (lk 0 rfl rfl) Rd.sl m12 rfl) rfl rfl) trivial ?_
    refine S.sil 4 rfl rfl (fun _ hF => .assign (lk 0 rfl rfl)) ?_
    refine S.nil ?_
    refine thenQ_n ?_
    refine AWp.ret ?_
    obtain rfl := h.ret
    exact endF1 rfl (Wk.selS [] .nil rfl (SelE.leaf (lk 0 rfl rfl) rfl (.forget _ _ _) (fun m => (ty_S_THold.lt _ _)) .nil) .nil) (.tmp (lk 0 rfl rfl) rfl) rfl rfl
theorem C_usufructref06_Reserve {a1 : List THold} {a2 : Int} {a3 : Int} {a4 : Int} {r : (List THold) × Int × Int} (h : usufructref06_Reserve a1 a2 a3 a4 = some r) : PureC Pg 76 [.sl 5 .no (List.map E_THold a1), (V.int .i64) a2, (V.int .i64) a3, (V.int .i64) a4] (.tup [E_S_THold r.1, (V.int .i64) r.2.1, (V.int .i64) r.2.2]) := by
  refine PureC.ofF (CallSpec.of_bodyF 61 0 fn76 rfl rfl rfl (Nat.le_of_ble_eq_true rfl) ?_) (ltL_c (lt_sl rfl (ty_THold.ltm _ _)) (ltL_c ((TyOk.int .i64).lt _ _) (ltL_c ((TyOk.int .i64).lt _ _) (ltL_c ((TyOk.int .i64).lt _ _) ltL_nil)))) (lt_tup (ltL_c (ty_S_THold.lt _ _) (ltL_c ((TyOk.int .i64).lt _ _) (ltL_c ((TyOk.int .i64).lt _ _) ltL_nil))))
  replace h := Ok.of h
  unfold usufructref06_Reserve at h
  refine AWp.seq ?_
  refine W.reg [0, 1, 2] rfl ?_
  refine S.sil 8 rfl rfl (fun _ hF => .assign cNs) ?_
  refine S.sil 9 rfl rfl (fun _ hF => .assign cI) ?_
  refine S.sil 10 rfl rfl (fun _ hF => .assign cI) ?_
  refine S.nil ?_
  refine thenQ_n ?_
  refine AWp.seq ?_
  refine AWp.seq ?_
  refine W.reg [0, 1, 2] rfl ?_
  refine S.sil 14 rfl rfl (fun _ hF => .move (lk 3 rfl rfl)) ?_
  obtain ⟨r5, m5, h⟩ := h.bnd
  refine S.sil 15 rfl rfl (fun _ hF => .callQ ent66 cF (.c (lk 0 rfl rfl) (V.sub.refl _) .nil) (C_usufructref06_Rights m5)) ?_
  refine S.sil 16 rfl rfl (fun _ hF => .not (lk 0 rfl rfl)) ?_
  refine S.nil ?_
  refine thenQ_n ?_
  refine AWp.condM (lk 0 rfl rfl) h (fun c1 h => ?_) (fun c1 h => ?_)
  · skip
    refine AWp.seq ?_
    refine W.reg [0, 1, 2] rfl ?_
    refine S.sil 8 rfl rfl (fun _ hF => .assign cNs) ?_
    refine S.sil 9 rfl rfl (fun _ hF => .assign cI) ?_
    refine S.sil 10 rfl rfl (fun _ hF => .assign cI) ?_
    refine S.nil ?_
    refine thenQ_n ?_
    refine AWp.ret ?_
    refine thenQ_r ?_
    obtain rfl := h.ret
    exact endFN rfl (Wk.selS [] .nil rfl (SelE.leaf (lk 2 rfl rfl) rfl (.nils_no _) (fun m => (ty_S_THold.lt ([] : List THold) _)) (SelE.leaf (lk 1 rfl rfl) rfl (.refl _) (fun m => ((TyOk.int .i64).lt _ _)) (SelE.leaf (lk 0 rfl rfl) rfl (.refl _) (fun m => ((TyOk.int .i64).lt _ _)) .nil))) .nil) (.cons (.tmp (lk 0 rfl rfl) rfl) (.cons (.tmp (lk 1 rfl rfl) rfl) (.cons (.tmp (lk 2 rfl rfl) rfl) .nil))) rfl rfl rfl
  · skip
    refine AWp.skip ?_
    refine thenQ_n ?_
    refine AWp.seq ?_
    refine W.reg [0] rfl ?_
    refine S.sil 11 rfl rfl (fun _ hF => .assign cI) ?_
    refine S.nil ?_
    refine thenQ_n ?_
    refine AWp.seq ?_
    refine AWp.seq ?_
    refine W.reg [0] rfl ?_
    refine S.sil 12 rfl rfl (fun _ hF => .assign cI) ?_
    refine S.nil ?_
    refine thenQ_n ?_
    refine AWp.cutX (fun x8 => ⟨[(11, (V.int .i64) x8), (10, (V.int .i64) 0), (9, (V.int .i64) 0), (8, .nils), (0, .sl 5 .no (List.map E_THold a1)), (1, (V.int .i64) a2), (2, (V.int .i64) a3), (3, (V.int .i64) a4)], []⟩) nc_then h (fun q6 hq6 => ?_) (fun x8 h => ?_)
    · refine AWp.block ?_
      refine AWp.loopT (fun s7 => ⟨[(12, (V.int .i64) s7.1), (11, (V.int .i64) s7.2), (10, (V.int .i64) 0), (9, (V.int .i64) 0), (8, .nils), (0, .sl 5 .no (List.map E_THold a1)), (1, (V.int .i64) a2), (2, (V.int .i64) a3), (3, (V.int .i64) a4)], []⟩) hq6 (Wk.selS [] (by decide) rfl (SelE.leaf (lk 0 rfl rfl) rfl (.refl _) (fun m => ((TyOk.int .i64).lt _ _)) (SelE.leaf (lk 1 rfl rfl) rfl (.refl _) (fun m => ((TyOk.int .i64).lt _ _)) (SelE.leaf (lk 5 rfl rfl) rfl (.refl _) (fun m => ((TyOk.int .i64).lt _ _)) (SelE.leaf (lk 6 rfl rfl) rfl (.refl _) (fun m => ((TyOk.int .i64).lt _ _)) (SelE.leaf (lk 7 rfl rfl) rfl (.refl _) (fun m => rfl) (SelE.leaf (lk 8 rfl rfl) rfl (.refl _) (fun m => (lt_sl rfl (ty_THold.ltm _ _))) (SelE.leaf (lk 9 rfl rfl) rfl (.refl _) (fun m => ((TyOk.int .i64).lt _ _)) (SelE.leaf (lk 10 rfl rfl) rfl (.refl _) (fun m => ((TyOk.int .i64).lt _ _)) (SelE.leaf (lk 11 rfl rfl) rfl (.refl _) (fun m => ((TyOk.int .i64).lt _ _)) .nil))))))))) .nil) (fun _ s7 h6 => ?_)
      rw [usufructref06_Reserve_L1] at h6
      refine AWp.seq ?_
      refine AWp.seq ?_
      refine W.reg [0, 1, 2, 3] rfl ?_
      refine S.sil 17 rfl rfl (fun _ hF => .move (lk 0 rfl rfl)) ?_
      refine S.sil 18 rfl rfl (fun _ hF => .move (lk 6 rfl rfl)) ?_
      refine S.sil 19 rfl rfl (fun _ hF => .lenT sli41 (lk 0 rfl rfl) (vsub rfl (.refl _))) ?_
      refine S.sil 20 rfl rfl (fun _ hF => .lss (lk 2 rfl rfl) (lk 0 rfl rfl)) ?_
      refine S.nil ?_
      refine thenQ_n ?_
      refine AWp.condM (lk 0 rfl rfl) h6 (fun c2 h6 => ?_) (fun c2 h6 => ?_)
      · skip
        refine AWp.skip ?_
        refine thenQ_n ?_
        refine AWp.seq ?_
        refine AWp.block ?_
        refine AWp.seq ?_
        refine W.reg [0, 1, 2, 3, 4, 5, 6, 7, 8, 9, 10, 11, 12, 13, 14, 15] rfl ?_
        refine S.sil 23 rfl rfl (fun _ hF => .move (lk 9 rfl rfl)) ?_
        refine S.sil 24 rfl rfl (fun _ hF => .move (lk 5 rfl rfl)) ?_
        obtain ⟨j9, m9, h6⟩ := h6.bnd
        refine S.sil 25 rfl rfl (fun _ hF => .ixS sli41 (lk 1 rfl rfl) (lk 0 rfl rfl) m9) ?_
        refine S.sil 26 rfl rfl (fun _ hF => .fieldAddrC lay81 rfl rfl (lk 0 rfl rfl) rfl flL_nil) ?_
        refine S.sil 27 rfl rfl (fun _ hF => .loadC sz3 ag3 (lk 0 rfl rfl) rfl rfl) ?_
        refine S.sil 28 rfl rfl (fun _ hF => .move (lk 15 rfl rfl)) ?_
        refine S.sil 29 rfl rfl (fun _ hF => .eql (lk 1 rfl rfl) (lk 0 rfl rfl)) ?_
        refine S.sil 30 rfl rfl (fun _ hF => .move (lk 0 rfl rfl)) ?_
        refine S.gsil 31 7 30 true rfl rfl rfl (lk 0 rfl rfl) (fun hB _ hF => .move (lk 17 rfl rfl)) ?_
        refine S.gsil 32 7 30 true rfl rfl rfl (lk 1 rfl rfl) (fun hB _ hF => .move (lk 13 rfl rfl)) ?_
        obtain ⟨j10, m10, h6⟩ := h6.bnd
        refine S.gsil 33 7 30 true rfl rfl rfl (lk 2 rfl rfl) (fun hB _ hF => .ixS sli41 (ifT hB (lk 1 rfl rfl)) (ifT hB (lk 0 rfl rfl)) (gd_get m10 hB)) ?_
        refine S.gsil 34 7 30 true rfl rfl rfl (lk 3 rfl rfl) (fun hB _ hF => .fieldAddrC lay81 rfl rfl (ifT hB (lk 0 rfl rfl)) rfl (flL_c (show flen _ = 1 from rfl) flL_nil)) ?_
        refine S.gsil 35 7 30 true rfl rfl rfl (lk 4 rfl rfl) (fun hB _ hF => .loadC sz3 ag3 (ifT hB (lk 0 rfl rfl)) rfl rfl) ?_
        refine S.gsil 36 7 30 true rfl rfl rfl (lk 5 rfl rfl) (fun hB _ hF => .move (lk 18 rfl rfl)) ?_
        refine S.gsil 37 7 30 true rfl rfl rfl (lk 6 rfl rfl) (fun hB _ hF => .gtr (ifT hB (lk 1 rfl rfl)) (ifT hB (lk 0 rfl rfl))) ?_
        obtain ⟨v11, ev11, h6⟩ := h6.nam
        refine S.sil 38 rfl rfl (fun _ hF => .nv (.pickAnd (lk 7 rfl rfl) (fun h => ifT h (lk 0 rfl rfl)) cB) (congrArg V.bool ev11.symm)) ?_
        refine S.nil ?_
        refine thenQ_n ?_
        refine AWp.condM (lk 0 rfl rfl) h6 (fun c3 h6 => ?_) (fun c3 h6 => ?_)
        · skip
          refine W.reg [0, 1, 2, 3, 4, 5] rfl ?_
          refine S.sil 39 rfl rfl (fun _ hF => .move (lk 25 rfl rfl)) ?_
          refine S.sil 40 rfl rfl (fun _ hF => .move (lk 21 rfl rfl)) ?_
          obtain ⟨j12, m12, h6⟩ := h6.bnd
          refine S.sil 41 rfl rfl (fun _ hF => .ixS sli41 (lk 1 rfl rfl) (lk 0 rfl rfl) m12) ?_
          refine S.sil 42 rfl rfl (fun _ hF => .fieldAddrC lay81 rfl rfl (lk 0 rfl rfl) rfl (flL_c (show flen _ = 1 from rfl) flL_nil)) ?_
          refine S.sil 43 rfl rfl (fun _ hF => .loadC sz3 ag3 (lk 0 rfl rfl) rfl rfl) ?_
          obtain ⟨v13, ev13, h6⟩ := h6.nam
          refine S.sil 11 rfl rfl (fun _ hF => .nv (.assign (lk 0 rfl rfl)) (congrArg (V.int .i64) ev13.symm)) ?_
          refine S.nil ?_
          refine blockQ_n ?_
          refine thenQ_n ?_
          refine W.reg [0, 1, 2] rfl ?_
          refine S.sil 21 rfl rfl (fun _ hF => .move (lk 26 rfl rfl)) ?_
          refine S.sil 22 rfl rfl (fun _ hF => .add (lk 0 rfl rfl) cI) ?_
          refine S.sil 12 rfl rfl (fun _ hF => .assign (lk 0 rfl rfl)) ?_
          refine S.nil ?_
          refine thenQ_n ?_
          exact ⟨_, h6.ret, (Wk.selS [] (by decide) rfl (SelE.leaf (lk 0 rfl rfl) rfl (.refl _) (fun m => ((TyOk.int .i64).lt _ _)) (SelE.leaf (lk 3 rfl rfl) rfl (.refl _) (fun m => ((TyOk.int .i64).lt _ _)) (SelE.leaf (lk 31 rfl rfl) rfl (.refl _) (fun m => ((TyOk.int .i64).lt _ _)) (SelE.leaf (lk 32 rfl rfl) rfl (.refl _) (fun m => ((TyOk.int .i64).lt _ _)) (SelE.leaf (lk 33 rfl rfl) rfl (.refl _) (fun m => rfl) (SelE.leaf (lk 34 rfl rfl) rfl (.refl _) (fun m => (lt_sl rfl (ty_THold.ltm _ _))) (SelE.leaf (lk 35 rfl rfl) rfl (.refl _) (fun m => ((TyOk.int .i64).lt _ _)) (SelE.leaf (lk 36 rfl rfl) rfl (.refl _) (fun m => ((TyOk.int .i64).lt _ _)) (SelE.leaf (lk 37 rfl rfl) rfl (.refl _) (fun m => ((TyOk.int .i64).lt _ _)) .nil))))))))) .nil)⟩
        · skip
          refine AWp.skip ?_
          refine blockQ_n ?_
          refine thenQ_n ?_
          refine W.reg [0, 1, 2] rfl ?_
          refine S.sil 21 rfl rfl (fun _ hF => .move (lk 20 rfl rfl)) ?_
          refine S.sil 22 rfl rfl (fun _ hF => .add (lk 0 rfl rfl) cI) ?_
          refine S.sil 12 rfl rfl (fun _ hF => .assign (lk 0 rfl rfl)) ?_
          refine S.nil ?_
          refine thenQ_n ?_
          exact ⟨_, h6.ret, (Wk.selS [] (by decide) rfl (SelE.leaf (lk 0 rfl rfl) rfl (.refl _) (fun m => ((TyOk.int .i64).lt _ _)) (SelE.leaf (lk 24 rfl rfl) rfl (.refl _) (fun m => ((TyOk.int .i64).lt _ _)) (SelE.leaf (lk 25 rfl rfl) rfl (.refl _) (fun m => ((TyOk.int .i64).lt _ _)) (SelE.leaf (lk 26 rfl rfl) rfl (.refl _) (fun m => ((TyOk.int .i64).lt _ _)) (SelE.leaf (lk 27 rfl rfl) rfl (.refl _) (fun m => rfl) (SelE.leaf (lk 28 rfl rfl) rfl (.refl _) (fun m => (lt_sl rfl (ty_THold.ltm _ _))) (SelE.leaf (lk 29 rfl rfl) rfl (.refl _) (fun m => ((TyOk.int .i64).lt _ _)) (SelE.leaf (lk 30 rfl rfl) rfl (.refl _) (fun m => ((TyOk.int .i64).lt _ _)) (SelE.leaf (lk 31 rfl rfl) rfl (.refl _) (fun m => ((TyOk.int .i64).lt _ _)) .nil))))))))) .nil)⟩
      · skip
        refine AWp.exit ?_
        refine thenQ_x ?_
        refine thenQ_x ?_
        refine blockQ_x ?_
        refine thenQ_n ?_
        exact ⟨_, h6.ret, (Wk.selS [] (by decide) rfl (SelE.leaf (lk 5 rfl rfl) rfl (.refl _) (fun m => ((TyOk.int .i64).lt _ _)) (SelE.leaf (lk 6 rfl rfl) rfl (.refl _) (fun m => ((TyOk.int .i64).lt _ _)) (SelE.leaf (lk 7 rfl rfl) rfl (.refl _) (fun m => ((TyOk.int .i64).lt _ _)) (SelE.leaf (lk 8 rfl rfl) rfl (.refl _) (fun m => rfl) (SelE.leaf (lk 9 rfl rfl) rfl (.refl _) (fun m => (lt_sl rfl (ty_THold.ltm _ _))) (SelE.leaf (lk 10 rfl rfl) rfl (.refl _) (fun m => ((TyOk.int .i64).lt _ _)) (SelE.leaf (lk 11 rfl rfl) rfl (.refl _) (fun m => ((TyOk.int .i64).lt _ _)) (SelE.leaf (lk 12 rfl rfl) rfl (.refl _) (fun m => ((TyOk.int .i64).lt _ _)) .nil)))))))) .nil)⟩
    · skip
      refine thenQ_n ?_
      refine AWp.seq ?_
      refine W.reg [0, 1, 2, 3, 4, 5, 6, 7] rfl ?_
      refine S.sil 44 rfl rfl (fun _ hF => .move (lk 5 rfl rfl)) ?_
      refine S.sil 45 rfl rfl (fun _ hF => .move (lk 1 rfl rfl)) ?_
      refine S.sil 46 rfl rfl (fun _ hF => .add (lk 0 rfl rfl) cI) ?_
      refine S.sil 47 rfl rfl (fun _ hF => .move (lk 9 rfl rfl)) ?_
      refine S.sil 48 rfl rfl (fun _ hF => .move (lk 11 rfl rfl)) ?_
      obtain ⟨v14, ev14, h⟩ := h.nam
      refine S.sil 49 rfl rfl (fun _ hF => .nv (.nv (v2 := E_THold (⟨a2, (wr .i64 (x8 + 1)), a3, a4, 1⟩ : THold)) (.buildStW lay81 zv81 rfl (.cons (lk 4 rfl rfl) rfl rfl rfl rfl (.cons (lk 2 rfl rfl) rfl rfl rfl rfl (.cons (lk 1 rfl rfl) rfl rfl rfl rfl (.cons (lk 0 rfl rfl) rfl rfl rfl rfl (.cons cI rfl rfl rfl rfl .nil)))))) rfl) (congrArg E_THold ev14.symm)) ?_
      refine S.eff 13 rfl rfl (.nf (v2 := .ptr 0 [] 0) (H2 := [.cells (E_THold (default : THold))]) (.alloc zv81) rfl rfl) trivial ?_
      refine S.effN rfl rfl (.nf (H2 := [.cells (E_THold v14)]) (.storeP sz81 (lk 0 rfl rfl) (lk 1 rfl rfl) rfl (.refl _) rfl .nil (by first | rfl | omega) .nil (ty_THold.fl v14) (ty_THold.fl (default : THold)) rfl) rfl rfl) trivial ?_
      refine S.nil ?_
      refine thenQ_n ?_
      refine AWp.wk (Wk.freeze 0 rfl rfl (.cons (lk 0 rfl rfl) rfl (.ptr .nil (by first | rfl | omega)) (.same (lk 7 rfl rfl) (.same (lk 8 rfl rfl) (.same (lk 9 rfl rfl) (.same (lk 10 rfl rfl) (.same (lk 11 rfl rfl) .nil)))))) (.refl _)) ?_
      refine AWp.seq ?_
      refine AWp.seq ?_
      refine W.reg [0, 1, 2] rfl ?_
      refine S.sil 50 rfl rfl (fun _ hF => .loadC sz81 ag81 (lk 0 rfl rfl) (ty_THold.fl v14) rfl) ?_
      obtain ⟨r15, m15, h⟩ := h.bnd
      refine S.sil 51 rfl rfl (fun _ hF => .callQ ent109 cF (.c (lk 0 rfl rfl) (V.sub.refl _) .nil) (C_usufructref06_Right m15)) ?_
      refine S.sil 52 rfl rfl (fun _ hF => .not (lk 0 rfl rfl)) ?_
      refine S.nil ?_
      refine thenQ_n ?_
      refine AWp.condM (lk 0 rfl rfl) h (fun c4 h => ?_) (fun c4 h => ?_)
      · skip
        refine AWp.seq ?_
        refine W.reg [0, 1, 2] rfl ?_
        refine S.sil 8 rfl rfl (fun _ hF => .assign cNs) ?_
        refine S.sil 9 rfl rfl (fun _ hF => .assign cI) ?_
        refine S.sil 10 rfl rfl (fun _ hF => .assign cI) ?_
        refine S.nil ?_
        refine thenQ_n ?_
        refine AWp.ret ?_
        refine thenQ_r ?_
        obtain rfl := h.ret
        exact endFN rfl (Wk.selS [] .nil rfl (SelE.leaf (lk 2 rfl rfl) rfl (.nils_no _) (fun m => (ty_S_THold.lt ([] : List THold) _)) (SelE.leaf (lk 1 rfl rfl) rfl (.refl _) (fun m => ((TyOk.int .i64).lt _ _)) (SelE.leaf (lk 0 rfl rfl) rfl (.refl _) (fun m => ((TyOk.int .i64).lt _ _)) .nil))) .nil) (.cons (.tmp (lk 0 rfl rfl) rfl) (.cons (.tmp (lk 1 rfl rfl) rfl) (.cons (.tmp (lk 2 rfl rfl) rfl) .nil))) rfl rfl rfl
      · skip
        refine AWp.skip ?_
        refine thenQ_n ?_
        refine AWp.seq ?_
        refine AWp.seq ?_
        refine W.reg [0, 1, 2] rfl ?_
        refine S.sil 53 rfl rfl (fun _ hF => .move (lk 8 rfl rfl)) ?_
        refine S.sil 54 rfl rfl (fun _ hF => .lenT sli41 (lk 0 rfl rfl) (vsub rfl (.refl _))) ?_
        refine S.sil 55 rfl rfl (fun _ hF => .geq (lk 0 rfl rfl) cI) ?_
        refine S.nil ?_
        refine thenQ_n ?_
        refine AWp.condM (lk 0 rfl rfl) h (fun c5 h => ?_) (fun c5 h => ?_)
        · skip
          refine AWp.seq ?_
          refine W.reg [0, 1, 2] rfl ?_
          refine S.sil 8 rfl rfl (fun _ hF => .assign cNs) ?_
          refine S.sil 9 rfl rfl (fun _ hF => .assign cI) ?_
          refine S.sil 10 rfl rfl (fun _ hF => .assign cI) ?_
          refine S.nil ?_
          refine thenQ_n ?_
          refine AWp.ret ?_
          refine thenQ_r ?_
          obtain rfl := h.ret
          exact endFN rfl (Wk.selS [] .nil rfl (SelE.leaf (lk 2 rfl rfl) rfl (.nils_no _) (fun m => (ty_S_THold.lt ([] : List THold) _)) (SelE.leaf (lk 1 rfl rfl) rfl (.refl _) (fun m => ((TyOk.int .i64).lt _ _)) (SelE.leaf (lk 0 rfl rfl) rfl (.refl _) (fun m => ((TyOk.int .i64).lt _ _)) .nil))) .nil) (.cons (.tmp (lk 0 rfl rfl) rfl) (.cons (.tmp (lk 1 rfl rfl) rfl) (.cons (.tmp (lk 2 rfl rfl) rfl) .nil))) rfl rfl rfl
        · skip
          refine AWp.skip ?_
          refine thenQ_n ?_
          refine AWp.seq ?_
          refine W.reg [0, 1, 2, 3, 4, 5, 6, 7] rfl ?_
          refine S.sil 56 rfl rfl (fun _ hF => .move (lk 11 rfl rfl)) ?_
          refine S.sil 57 rfl rfl (fun _ hF => .loadC sz81 ag81 (lk 7 rfl rfl) (ty_THold.fl v14) rfl) ?_
          obtain ⟨r16, m16, h⟩ := h.bnd
          refine S.sil 58 rfl rfl (fun _ hF => .callQ ent118 cF (.c (lk 1 rfl rfl) (V.sub.refl _) (.c (lk 0 rfl rfl) (V.sub.refl _) .nil)) (C_usufructref06_Put m16)) ?_
          refine S.sil 59 rfl rfl (fun _ hF => .move (lk 10 rfl rfl)) ?_
          refine S.sil 60 rfl rfl (fun _ hF => .add (lk 0 rfl rfl) cI) ?_
          refine S.sil 8 rfl rfl (fun _ hF => .assign (lk 2 rfl rfl)) ?_
          refine S.sil 9 rfl rfl (fun _ hF => .assign (lk 1 rfl rfl)) ?_
          refine S.sil 10 rfl rfl (fun _ hF => .assign cI) ?_
          refine S.nil ?_
          refine thenQ_n ?_
          refine AWp.prune (.eq (lk 0 rfl rfl) rfl (.eq (lk 1 rfl rfl) rfl (.eq (lk 2 rfl rfl) rfl .nil))) ?_
          refine AWp.ret ?_
          obtain rfl := h.ret
          exact endFN rfl (Wk.selS [] .nil rfl (SelE.leaf (lk 2 rfl rfl) rfl (.refl _) (fun m => (ty_S_THold.lt _ _)) (SelE.leaf (lk 1 rfl rfl) rfl (.refl _) (fun m => ((TyOk.int .i64).lt _ _)) (SelE.leaf (lk 0 rfl rfl) rfl (.refl _) (fun m => ((TyOk.int .i64).lt _ _)) .nil))) .nil) (.cons (.tmp (lk 0 rfl rfl) rfl) (.cons (.tmp (lk 1 rfl rfl) rfl) (.cons (.tmp (lk 2 rfl rfl) rfl) .nil))) rfl rfl rfl
theorem C_usufructref07_Reserve {a1 : TField} {a2 : Int} {a3 : Int} {a4 : Int} {r : TField × Int × Int} (h : usufructref07_Reserve a1 a2 a3 a4 = some r) : PureC Pg 34 [E_TField a1, (V.int .i64) a2, (V.int .i64) a3, (V.int .i64) a4] (.tup [E_TField r.1, (V.int .i64) r.2.1, (V.int .i64) r.2.2]) := by
  refine PureC.ofF (CallSpec.of_bodyF 48 0 fn34 rfl rfl rfl (Nat.le_of_ble_eq_true rfl) ?_) (ltL_c (ty_TField.lt _ _) (ltL_c ((TyOk.int .i64).lt _ _) (ltL_c ((TyOk.int .i64).lt _ _) (ltL_c ((TyOk.int .i64).lt _ _) ltL_nil)))) (lt_tup (ltL_c (ty_TField.lt _ _) (ltL_c ((TyOk.int .i64).lt _ _) (ltL_c ((TyOk.int .i64).lt _ _) ltL_nil))))
  replace h := Ok.of h
  unfold usufructref07_Reserve at h
  refine AWp.seq ?_
  refine W.reg [0, 1, 2, 3] rfl ?_
  refine S.eff 4 rfl rfl (.nf (v2 := .ptr 0 [] 0) (H2 := [.cells (E_TField a1)]) (.box (lk 0 rfl rfl) rfl) rfl rfl) trivial ?_
  refine S.eff 8 rfl rfl (.nf (v2 := .ptr 1 [] 0) (H2 := [.cells (E_TField a1), .cells (.st [V.str (default : ByteArray), (V.int .i64) 0, (V.int .i64) 0, E_TCounter (default : TCounter), E_TLock (default : TLock), .nils])]) (.alloc zv43) rfl rfl) trivial ?_
  refine S.sil 9 rfl rfl (fun _ hF => .assign cI) ?_
  refine S.sil 10 rfl rfl (fun _ hF => .assign cI) ?_
  refine S.nil ?_
  refine thenQ_n ?_
  refine AWp.seq ?_
  refine AWp.seq ?_
  refine W.reg [0, 1, 2] rfl ?_
  refine S.sil 16 rfl rfl (fun _ hF => .fieldAddr lay43 rfl rfl (lk 3 rfl rfl)) ?_
  refine S.qui 17 rfl rfl (fun _ => .loadP sz3 ag3 (lk 0 rfl rfl) rfl (.st rfl (flL_c (show flen _ = 1 from rfl) flL_nil) .nil) (by first | rfl | omega) rfl rfl) ?_
  refine S.sil 18 rfl rfl (fun _ hF => .neq (lk 0 rfl rfl) cI) ?_
  refine S.nil ?_
  refine thenQ_n ?_
  refine AWp.condM (lk 0 rfl rfl) h (fun c1 h => ?_) (fun c1 h => ?_)
  · skip
    refine AWp.seq ?_
    refine W.reg [0, 1, 2, 3] rfl ?_
    obtain ⟨v5, ev5, h⟩ := h.nam
    refine S.sil 19 rfl rfl (fun _ hF => .nv (.vs (v := .st [V.str (default : ByteArray), (V.int .i64) 0, (V.int .i64) 0, E_TCounter (default : TCounter), E_TLock (default : TLock), .nils]) (v2 := E_TField (⟨(default : ByteArray), 0, 0, (default : TCounter), (default : TLock), ([] : List THold)⟩ : TField)) (.buildStW lay43 zv43 rfl .nil) rfl (.st (.cons (.refl _) (.cons (.refl _) (.cons (.refl _) (.cons (.refl _) (.cons (.refl _) (.cons (.nils_no _) .nil)))))))) (congrArg E_TField ev5.symm)) ?_
    refine S.effN rfl rfl (.nf (H2 := [.cells (E_TField a1), .cells (E_TField v5)]) (.storeP sz43 (lk 6 rfl rfl) (lk 0 rfl rfl) rfl (.refl _) rfl .nil (by first | rfl | omega) .nil (ty_TField.fl v5) (fl_st (flL_c (show flen _ = 1 from rfl) (flL_c (show flen _ = 1 from rfl) (flL_c (show flen _ = 1 from rfl) (flL_c (ty_TCounter.fl (default : TCounter)) (flL_c (ty_TLock.fl (default : TLock)) (flL_c (show flen _ = 1 from rfl) flL_nil))))))) rfl) rfl rfl) trivial ?_
    refine S.sil 9 rfl rfl (fun _ hF => .assign cI) ?_
    refine S.sil 10 rfl rfl (fun _ hF => .assign cI) ?_
    refine S.nil ?_
    refine thenQ_n ?_
    refine AWp.ret ?_
    refine thenQ_r ?_
    refine endF_wk (Wk.freeze 1 rfl rfl (.same (lk 0 rfl rfl) (.same (lk 1 rfl rfl) (.same (lk 0 rfl rfl) (.same (lk 1 rfl rfl) (.cons (lk 8 rfl rfl) rfl (.ptr .nil (by first | rfl | omega)) .nil))))) (.refl _)) ?_
    obtain rfl := h.ret
    exact endFN rfl (Wk.selS [] .nil rfl (SelE.leaf (lk 4 rfl rfl) rfl (.refl _) (fun m => (lt_cptr (ty_TField.lt _ _))) (SelE.leaf (lk 1 rfl rfl) rfl (.refl _) (fun m => ((TyOk.int .i64).lt _ _)) (SelE.leaf (lk 0 rfl rfl) rfl (.refl _) (fun m => ((TyOk.int .i64).lt _ _)) .nil))) .nil) (.cons (.cellC sz43 ag43 (lk 0 rfl rfl) (ty_TField.fl _) rfl) (.cons (.tmp (lk 1 rfl rfl) rfl) (.cons (.tmp (lk 2 rfl rfl) rfl) .nil))) rfl rfl rfl
  · skip
    refine AWp.skip ?_
    refine thenQ_n ?_
    refine AWp.seq ?_
    refine W.reg [0, 1, 2, 3, 4, 5, 6, 7] rfl ?_
    refine S.qui 21 rfl rfl (fun _ => .loadP sz43 ag43 (lk 6 rfl rfl) rfl .nil (by first | rfl | omega) (ty_TField.fl a1) rfl) ?_
    refine S.sil 22 rfl rfl (fun _ hF => .move (lk 9 rfl rfl)) ?_
    obtain ⟨r6, m6, h⟩ := h.bnd
    refine S.sil 23 rfl rfl (fun _ hF => .callQ ent28 cF (.c (lk 1 rfl rfl) (V.sub.refl _) (.c (lk 0 rfl rfl) (V.sub.refl _) .nil)) (C_usufructref07_Loose m6)) ?_
    refine S.sil 20 rfl rfl (fun _ hF => .move (lk 0 rfl rfl)) ?_
    refine S.sil 24 rfl rfl (fun _ hF => .extract (lk 0 rfl rfl) rfl) ?_
    refine S.sil 25 rfl rfl (fun _ hF => .extract (lk 1 rfl rfl) rfl) ?_
    refine S.sil 11 rfl rfl (fun _ hF => .assign (lk 1 rfl rfl)) ?_
    refine S.sil 12 rfl rfl (fun _ hF => .assign (lk 1 rfl rfl)) ?_
    refine S.nil ?_
    refine thenQ_n ?_
    refine AWp.prune (.eq (lk 1 rfl rfl) rfl (.eq (lk 11 rfl rfl) rfl (.eq (lk 12 rfl rfl) rfl (.eq (lk 13 rfl rfl) rfl (.eq (lk 14 rfl rfl) rfl (.eq (lk 16 rfl rfl) rfl (.eq (lk 17 rfl rfl) rfl (.eq (lk 18 rfl rfl) rfl .nil)))))))) ?_
    refine AWp.seq ?_
    refine AWp.seq ?_
    refine W.reg [0, 1, 2] rfl ?_
    refine S.sil 26 rfl rfl (fun _ hF => .move (lk 6 rfl rfl)) ?_
    refine S.sil 27 rfl rfl (fun _ hF => .move (lk 1 rfl rfl)) ?_
    refine S.sil 28 rfl rfl (fun _ hF => .gtr (lk 1 rfl rfl) (lk 0 rfl rfl)) ?_
    refine S.nil ?_
    refine thenQ_n ?_
    refine AWp.condM (lk 0 rfl rfl) h (fun c2 h => ?_) (fun c2 h => ?_)
    · skip
      refine AWp.seq ?_
      refine W.reg [0, 1, 2, 3] rfl ?_
      obtain ⟨v7, ev7, h⟩ := h.nam
      refine S.sil 29 rfl rfl (fun _ hF => .nv (.vs (v := .st [V.str (default : ByteArray), (V.int .i64) 0, (V.int .i64) 0, E_TCounter (default : TCounter), E_TLock (default : TLock), .nils]) (v2 := E_TField (⟨(default : ByteArray), 0, 0, (default : TCounter), (default : TLock), ([] : List THold)⟩ : TField)) (.buildStW lay43 zv43 rfl .nil) rfl (.st (.cons (.refl _) (.cons (.refl _) (.cons (.refl _) (.cons (.refl _) (.cons (.refl _) (.cons (.nils_no _) .nil)))))))) (congrArg E_TField ev7.symm)) ?_
      refine S.effN rfl rfl (.nf (H2 := [.cells (E_TField a1), .cells (E_TField v7)]) (.storeP sz43 (lk 7 rfl rfl) (lk 0 rfl rfl) rfl (.refl _) rfl .nil (by first | rfl | omega) .nil (ty_TField.fl v7) (fl_st (flL_c (show flen _ = 1 from rfl) (flL_c (show flen _ = 1 from rfl) (flL_c (show flen _ = 1 from rfl) (flL_c (ty_TCounter.fl (default : TCounter)) (flL_c (ty_TLock.fl (default : TLock)) (flL_c (show flen _ = 1 from rfl) flL_nil))))))) rfl) rfl rfl) trivial ?_
      refine S.sil 9 rfl rfl (fun _ hF => .assign cI) ?_
      refine S.sil 10 rfl rfl (fun _ hF => .assign cI) ?_
      refine S.nil ?_
      refine thenQ_n ?_
      refine AWp.ret ?_
      refine thenQ_r ?_
      refine endF_wk (Wk.freeze 1 rfl rfl (.same (lk 0 rfl rfl) (.same (lk 1 rfl rfl) (.same (lk 0 rfl rfl) (.same (lk 1 rfl rfl) (.cons (lk 9 rfl rfl) rfl (.ptr .nil (by first | rfl | omega)) .nil))))) (.refl _)) ?_
      obtain rfl := h.ret
      exact endFN rfl (Wk.selS [] .nil rfl (SelE.leaf (lk 4 rfl rfl) rfl (.refl _) (fun m => (lt_cptr (ty_TField.lt _ _))) (SelE.leaf (lk 1 rfl rfl) rfl (.refl _) (fun m => ((TyOk.int .i64).lt _ _)) (SelE.leaf (lk 0 rfl rfl) rfl (.refl _) (fun m => ((TyOk.int .i64).lt _ _)) .nil))) .nil) (.cons (.cellC sz43 ag43 (lk 0 rfl rfl) (ty_TField.fl _) rfl) (.cons (.tmp (lk 1 rfl rfl) rfl) (.cons (.tmp (lk 2 rfl rfl) rfl) .nil))) rfl rfl rfl
    · skip
      refine AWp.skip ?_
      refine thenQ_n ?_
      refine AWp.seq ?_
      refine W.reg [0, 1, 2, 3, 4, 5, 6, 7, 8, 9, 10, 11, 12] rfl ?_
      refine S.sil 31 rfl rfl (fun _ hF => .fieldAddr lay43 rfl rfl (lk 7 rfl rfl)) ?_
      refine S.qui 32 rfl rfl (fun _ => .loadP sz41 ag41 (lk 0 rfl rfl) rfl (.st rfl (flL_c (show flen _ = 1 from rfl) (flL_c (show flen _ = 1 from rfl) (flL_c (show flen _ = 1 from rfl) (flL_c (ty_TCounter.fl a1.Counter) (flL_c (ty_TLock.fl a1.Lock) flL_nil))))) .nil) (by first | rfl | omega) rfl rfl) ?_
      refine S.sil 33 rfl rfl (fun _ hF => .move (lk 10 rfl rfl)) ?_
      refine S.sil 34 rfl rfl (fun _ hF => .move (lk 12 rfl rfl)) ?_
      refine S.sil 35 rfl rfl (fun _ hF => .move (lk 14 rfl rfl)) ?_
      obtain ⟨r8, m8, h⟩ := h.bnd
      refine S.sil 36 rfl rfl (fun _ hF => .callQ ent76 cF (.c (lk 3 rfl rfl) (V.sub.refl _) (.c (lk 2 rfl rfl) (V.sub.refl _) (.c (lk 1 rfl rfl) (V.sub.refl _) (.c (lk 0 rfl rfl) (V.sub.refl _) .nil)))) (C_usufructref06_Reserve m8)) ?_
      refine S.sil 30 rfl rfl (fun _ hF => .move (lk 0 rfl rfl)) ?_
      refine S.sil 37 rfl rfl (fun _ hF => .extract (lk 0 rfl rfl) rfl) ?_
      refine S.sil 38 rfl rfl (fun _ hF => .extract (lk 1 rfl rfl) rfl) ?_
      refine S.sil 39 rfl rfl (fun _ hF => .extract (lk 2 rfl rfl) rfl) ?_
      refine S.sil 13 rfl rfl (fun _ hF => .assign (lk 2 rfl rfl)) ?_
      refine S.sil 14 rfl rfl (fun _ hF => .assign (lk 2 rfl rfl)) ?_
      refine S.sil 15 rfl rfl (fun _ hF => .assign (lk 2 rfl rfl)) ?_
      refine S.nil ?_
      refine thenQ_n ?_
      refine AWp.prune (.eq (lk 0 rfl rfl) rfl (.eq (lk 1 rfl rfl) rfl (.eq (lk 2 rfl rfl) rfl (.eq (lk 17 rfl rfl) rfl (.eq (lk 18 rfl rfl) rfl (.eq (lk 19 rfl rfl) rfl (.eq (lk 20 rfl rfl) rfl .nil))))))) ?_
      refine AWp.seq ?_
      refine AWp.seq ?_
      refine W.reg [0, 1] rfl ?_
      refine S.sil 40 rfl rfl (fun _ hF => .move (lk 0 rfl rfl)) ?_
      refine S.sil 41 rfl rfl (fun _ hF => .neq (lk 0 rfl rfl) cI) ?_
      refine S.nil ?_
      refine thenQ_n ?_
      refine AWp.condM (lk 0 rfl rfl) h (fun c3 h => ?_) (fun c3 h => ?_)
      · skip
        refine AWp.seq ?_
        refine W.reg [0, 1, 2, 3, 4] rfl ?_
        obtain ⟨v9, ev9, h⟩ := h.nam
        refine S.sil 42 rfl rfl (fun _ hF => .nv (.vs (v := .st [V.str (default : ByteArray), (V.int .i64) 0, (V.int .i64) 0, E_TCounter (default : TCounter), E_TLock (default : TLock), .nils]) (v2 := E_TField (⟨(default : ByteArray), 0, 0, (default : TCounter), (default : TLock), ([] : List THold)⟩ : TField)) (.buildStW lay43 zv43 rfl .nil) rfl (.st (.cons (.refl _) (.cons (.refl _) (.cons (.refl _) (.cons (.refl _) (.cons (.refl _) (.cons (.nils_no _) .nil)))))))) (congrArg E_TField ev9.symm)) ?_
        refine S.sil 43 rfl rfl (fun _ hF => .move (lk 3 rfl rfl)) ?_
        refine S.effN rfl rfl (.nf (H2 := [.cells (E_TField a1), .cells (E_TField v9)]) (.storeP sz43 (lk 9 rfl rfl) (lk 1 rfl rfl) rfl (.refl _) rfl .nil (by first | rfl | omega) .nil (ty_TField.fl v9) (fl_st (flL_c (show flen _ = 1 from rfl) (flL_c (show flen _ = 1 from rfl) (flL_c (show flen _ = 1 from rfl) (flL_c (ty_TCounter.fl (default : TCounter)) (flL_c (ty_TLock.fl (default : TLock)) (flL_c (show flen _ = 1 from rfl) flL_nil))))))) rfl) rfl rfl) trivial ?_
        refine S.sil 9 rfl rfl (fun _ hF => .assign cI) ?_
        refine S.sil 10 rfl rfl (fun _ hF => .assign (lk 1 rfl rfl)) ?_
        refine S.nil ?_
        refine thenQ_n ?_
        refine AWp.ret ?_
        refine thenQ_r ?_
        refine endF_wk (Wk.freeze 1 rfl rfl (.same (lk 0 rfl rfl) (.same (lk 1 rfl rfl) (.same (lk 0 rfl rfl) (.same (lk 1 rfl rfl) (.cons (lk 11 rfl rfl) rfl (.ptr .nil (by first | rfl | omega)) .nil))))) (.refl _)) ?_
        obtain rfl := h.ret
        exact endFN rfl (Wk.selS [] .nil rfl (SelE.leaf (lk 4 rfl rfl) rfl (.refl _) (fun m => (lt_cptr (ty_TField.lt _ _))) (SelE.leaf (lk 1 rfl rfl) rfl (.refl _) (fun m => ((TyOk.int .i64).lt _ _)) (SelE.leaf (lk 0 rfl rfl) rfl (.refl _) (fun m => ((TyOk.int .i64).lt _ _)) .nil))) .nil) (.cons (.cellC sz43 ag43 (lk 0 rfl rfl) (ty_TField.fl _) rfl) (.cons (.tmp (lk 1 rfl rfl) rfl) (.cons (.tmp (lk 2 rfl rfl) rfl) .nil))) rfl rfl rfl
      · skip
        refine AWp.skip ?_
        refine thenQ_n ?_
        refine AWp.seq ?_
        refine W.reg [0, 1, 2] rfl ?_
        refine S.sil 44 rfl rfl (fun _ hF => .move (lk 4 rfl rfl)) ?_
        refine S.sil 45 rfl rfl (fun _ hF => .fieldAddr lay43 rfl rfl (lk 9 rfl rfl)) ?_
        obtain ⟨v10, ev10, h⟩ := h.nam
        refine S.effN rfl rfl (.nf (H2 := [.cells (E_TField v10), .cells (.st [V.str (default : ByteArray), (V.int .i64) 0, (V.int .i64) 0, E_TCounter (default : TCounter), E_TLock (default : TLock), .nils])]) (.storeP sz41 (lk 0 rfl rfl) (lk 1 rfl rfl) rfl (.refl _) rfl (.st rfl (flL_c (show flen _ = 1 from rfl) (flL_c (show flen _ = 1 from rfl) (flL_c (show flen _ = 1 from rfl) (flL_c (ty_TCounter.fl a1.Counter) (flL_c (ty_TLock.fl a1.Lock) flL_nil))))) .nil) (by first | rfl | omega) (.st rfl .nil rfl) rfl rfl (congrArg (fun z => ([AObj.cells (E_TField z), .cells (.st [V.str (default : ByteArray), (V.int .i64) 0, (V.int .i64) 0, E_TCounter (default : TCounter), E_TLock (default : TLock), .nils])] : List AObj)) ev10.symm)) rfl rfl) trivial ?_
        refine S.nil ?_
        refine thenQ_n ?_
        refine AWp.seq ?_
        refine W.reg [0, 1, 2, 3, 4] rfl ?_
        refine S.qui 46 rfl rfl (fun _ => .loadP sz43 ag43 (lk 10 rfl rfl) rfl .nil (by first | rfl | omega) (ty_TField.fl v10) rfl) ?_
        refine S.sil 47 rfl rfl (fun _ hF => .move (lk 6 rfl rfl)) ?_
        refine S.effN rfl rfl (.nf (H2 := [.cells (E_TField v10), .cells (E_TField v10)]) (.storeP sz43 (lk 11 rfl rfl) (lk 1 rfl rfl) rfl (.refl _) rfl .nil (by first | rfl | omega) .nil (ty_TField.fl v10) (fl_st (flL_c (show flen _ = 1 from rfl) (flL_c (show flen _ = 1 from rfl) (flL_c (show flen _ = 1 from rfl) (flL_c (ty_TCounter.fl (default : TCounter)) (flL_c (ty_TLock.fl (default : TLock)) (flL_c (show flen _ = 1 from rfl) flL_nil))))))) rfl) rfl rfl) trivial ?_
        refine S.sil 9 rfl rfl (fun _ hF => .assign (lk 0 rfl rfl)) ?_
        refine S.sil 10 rfl rfl (fun _ hF => .assign cI) ?_
        refine S.nil ?_
        refine thenQ_n ?_
        refine AWp.prune (.eq (lk 0 rfl rfl) rfl (.eq (lk 1 rfl rfl) rfl (.eq (lk 13 rfl rfl) rfl .nil))) ?_
        refine AWp.ret ?_
        refine endF_wk (Wk.freeze 1 rfl rfl (.same (lk 0 rfl rfl) (.same (lk 1 rfl rfl) (.cons (lk 2 rfl rfl) rfl (.ptr .nil (by first | rfl | omega)) .nil))) (.refl _)) ?_
        obtain rfl := h.ret
        exact endFN rfl (Wk.selS [] .nil rfl (SelE.leaf (lk 2 rfl rfl) rfl (.refl _) (fun m => (lt_cptr (ty_TField.lt _ _))) (SelE.leaf (lk 1 rfl rfl) rfl (.refl _) (fun m => ((TyOk.int .i64).lt _ _)) (SelE.leaf (lk 0 rfl rfl) rfl (.refl _) (fun m => ((TyOk.int .i64).lt _ _)) .nil))) .nil) (.cons (.cellC sz43 ag43 (lk 0 rfl rfl) (ty_TField.fl _) rfl) (.cons (.tmp (lk 1 rfl rfl) rfl) (.cons (.tmp (lk 2 rfl rfl) rfl) .nil))) rfl rfl rfl
theorem C_usufructref06_End {a1 : List THold} {a2 : Int} {a3 : Int} {a4 : Int} {r : (List THold) × Int × Int} (h : usufructref06_End a1 a2 a3 a4 = some r) : PureC Pg 80 [.sl 5 .no (List.map E_THold a1), (V.int .i64) a2, (V.int .i64) a3, (V.int .i64) a4] (.tup [E_S_THold r.1, (V.int .i64) r.2.1, (V.int .i64) r.2.2]) := by
  refine PureC.ofF (CallSpec.of_bodyF 66 0 fn80 rfl rfl rfl (Nat.le_of_ble_eq_true rfl) ?_) (ltL_c (lt_sl rfl (ty_THold.ltm _ _)) (ltL_c ((TyOk.int .i64).lt _ _) (ltL_c ((TyOk.int .i64).lt _ _) (ltL_c ((TyOk.int .i64).lt _ _) ltL_nil)))) (lt_tup (ltL_c (ty_S_THold.lt _ _) (ltL_c ((TyOk.int .i64).lt _ _) (ltL_c ((TyOk.int .i64).lt _ _) ltL_nil))))
  replace h := Ok.of h
  unfold usufructref06_End at h
  refine AWp.seq ?_
  refine W.reg [0, 1, 2] rfl ?_
  refine S.sil 8 rfl rfl (fun _ hF => .assign cNs) ?_
  refine S.sil 9 rfl rfl (fun _ hF => .assign cI) ?_
  refine S.sil 10 rfl rfl (fun _ hF => .assign cI) ?_
  refine S.nil ?_
  refine thenQ_n ?_
  refine AWp.seq ?_
  refine AWp.seq ?_
  refine W.reg [0, 1, 2, 3, 4, 5, 6, 7, 8, 9, 10] rfl ?_
  refine S.sil 13 rfl rfl (fun _ hF => .move (lk 3 rfl rfl)) ?_
  obtain ⟨r5, m5, h⟩ := h.bnd
  refine S.sil 14 rfl rfl (fun _ hF => .callQ ent66 cF (.c (lk 0 rfl rfl) (V.sub.refl _) .nil) (C_usufructref06_Rights m5)) ?_
  refine S.sil 15 rfl rfl (fun _ hF => .not (lk 0 rfl rfl)) ?_
  refine S.sil 16 rfl rfl (fun _ hF => .move (lk 0 rfl rfl)) ?_
  refine S.gsil 17 3 16 false rfl rfl rfl (lk 0 rfl rfl) (fun hB _ hF => .move (lk 10 rfl rfl)) ?_
  refine S.gsil 18 3 16 false rfl rfl rfl (lk 1 rfl rfl) (fun hB _ hF => .lss (ifT hB (lk 0 rfl rfl)) cI) ?_
  refine S.sil 19 rfl rfl (fun _ hF => .pickOr (lk 2 rfl rfl) cB (fun h => ifT h (lk 0 rfl rfl))) ?_
  refine S.sil 20 rfl rfl (fun _ hF => .move (lk 0 rfl rfl)) ?_
  refine S.gsil 21 7 20 false rfl rfl rfl (lk 0 rfl rfl) (fun hB _ hF => .move (lk 14 rfl rfl)) ?_
  refine S.gsil 22 7 20 false rfl rfl rfl (lk 1 rfl rfl) (fun hB _ hF => .gtr (ifT hB (lk 0 rfl rfl)) cI) ?_
  refine S.sil 23 rfl rfl (fun _ hF => .pickOr (lk 2 rfl rfl) cB (fun h => ifT h (lk 0 rfl rfl))) ?_
  refine S.nil ?_
  refine thenQ_n ?_
  refine AWp.prune (.eq (lk 0 rfl rfl) rfl (.eq (lk 11 rfl rfl) rfl (.eq (lk 12 rfl rfl) rfl (.eq (lk 13 rfl rfl) rfl (.eq (lk 14 rfl rfl) rfl (.eq (lk 15 rfl rfl) rfl (.eq (lk 16 rfl rfl) rfl (.eq (lk 17 rfl rfl) rfl .nil)))))))) ?_
  refine AWp.condM (lk 0 rfl rfl) h (fun c1 h => ?_) (fun c1 h => ?_)
  · skip
    refine AWp.seq ?_
    refine W.reg [0, 1, 2] rfl ?_
    refine S.sil 8 rfl rfl (fun _ hF => .assign cNs) ?_
    refine S.sil 9 rfl rfl (fun _ hF => .assign cI) ?_
    refine S.sil 10 rfl rfl (fun _ hF => .assign cI) ?_
    refine S.nil ?_
    refine thenQ_n ?_
    refine AWp.ret ?_
    refine thenQ_r ?_
    obtain rfl := h.ret
    exact endFN rfl (Wk.selS [] .nil rfl (SelE.leaf (lk 2 rfl rfl) rfl (.nils_no _) (fun m => (ty_S_THold.lt ([] : List THold) _)) (SelE.leaf (lk 1 rfl rfl) rfl (.refl _) (fun m => ((TyOk.int .i64).lt _ _)) (SelE.leaf (lk 0 rfl rfl) rfl (.refl _) (fun m => ((TyOk.int .i64).lt _ _)) .nil))) .nil) (.cons (.tmp (lk 0 rfl rfl) rfl) (.cons (.tmp (lk 1 rfl rfl) rfl) (.cons (.tmp (lk 2 rfl rfl) rfl) .nil))) rfl rfl rfl
  · skip
    refine AWp.skip ?_
    refine thenQ_n ?_
    refine AWp.seq ?_
    refine AWp.seq ?_
    refine W.reg [0] rfl ?_
    refine S.sil 11 rfl rfl (fun _ hF => .assign cI) ?_
    refine S.nil ?_
    refine thenQ_n ?_
    refine AWp.cutL (fun x8 => ⟨[(10, (V.int .i64) 0), (9, (V.int .i64) 0), (8, .nils)], []⟩) nc_then h (fun q6 hq6 h => ?_) (fun x8 h => ?_)
    · refine AWp.block ?_
      refine AWp.loopT (fun s7 => ⟨[(11, (V.int .i64) s7), (10, (V.int .i64) 0), (9, (V.int .i64) 0), (8, .nils), (0, .sl 5 .no (List.map E_THold a1)), (1, (V.int .i64) a2), (2, (V.int .i64) a3), (3, (V.int .i64) a4)], []⟩) hq6 (Wk.selS [] (by decide) rfl (SelE.leaf (lk 0 rfl rfl) rfl (.refl _) (fun m => ((TyOk.int .i64).lt _ _)) (SelE.leaf (lk 2 rfl rfl) rfl (.refl _) (fun m => ((TyOk.int .i64).lt _ _)) (SelE.leaf (lk 3 rfl rfl) rfl (.refl _) (fun m => ((TyOk.int .i64).lt _ _)) (SelE.leaf (lk 4 rfl rfl) rfl (.refl _) (fun m => rfl) (SelE.leaf (lk 5 rfl rfl) rfl (.refl _) (fun m => (lt_sl rfl (ty_THold.ltm _ _))) (SelE.leaf (lk 6 rfl rfl) rfl (.refl _) (fun m => ((TyOk.int .i64).lt _ _)) (SelE.leaf (lk 7 rfl rfl) rfl (.refl _) (fun m => ((TyOk.int .i64).lt _ _)) (SelE.leaf (lk 8 rfl rfl) rfl (.refl _) (fun m => ((TyOk.int .i64).lt _ _)) .nil)))))))) .nil) (fun _ s7 h6 => ?_)
      rw [usufructref06_End_L1] at h6
      refine AWp.seq ?_
      refine AWp.seq ?_
      refine W.reg [0, 1, 2, 3] rfl ?_
      refine S.sil 24 rfl rfl (fun _ hF => .move (lk 0 rfl rfl)) ?_
      refine S.sil 25 rfl rfl (fun _ hF => .move (lk 5 rfl rfl)) ?_
      refine S.sil 26 rfl rfl (fun _ hF => .lenT sli41 (lk 0 rfl rfl) (vsub rfl (.refl _))) ?_
      refine S.sil 27 rfl rfl (fun _ hF => .lss (lk 2 rfl rfl) (lk 0 rfl rfl)) ?_
      refine S.nil ?_
      refine thenQ_n ?_
      refine AWp.condM (lk 0 rfl rfl) h6 (fun c2 h6 => ?_) (fun c2 h6 => ?_)
      · skip
        refine AWp.skip ?_
        refine thenQ_n ?_
        refine AWp.seq ?_
        refine AWp.block ?_
        refine AWp.seq ?_
        refine W.reg [0, 1, 2, 3, 4, 5, 6, 7, 8, 9, 10, 11, 12, 13, 14, 15] rfl ?_
        refine S.sil 30 rfl rfl (fun _ hF => .move (lk 8 rfl rfl)) ?_
        refine S.sil 31 rfl rfl (fun _ hF => .move (lk 5 rfl rfl)) ?_
        obtain ⟨j9, m9, h6⟩ := h6.bnd
        refine S.sil 32 rfl rfl (fun _ hF => .ixS sli41 (lk 1 rfl rfl) (lk 0 rfl rfl) m9) ?_
        refine S.sil 33 rfl rfl (fun _ hF => .fieldAddrC lay81 rfl rfl (lk 0 rfl rfl) rfl flL_nil) ?_
        refine S.sil 34 rfl rfl (fun _ hF => .loadC sz3 ag3 (lk 0 rfl rfl) rfl rfl) ?_
        refine S.sil 35 rfl rfl (fun _ hF => .move (lk 14 rfl rfl)) ?_
        refine S.sil 36 rfl rfl (fun _ hF => .eql (lk 1 rfl rfl) (lk 0 rfl rfl)) ?_
        refine S.sil 37 rfl rfl (fun _ hF => .move (lk 0 rfl rfl)) ?_
        refine S.gsil 38 7 37 true rfl rfl rfl (lk 0 rfl rfl) (fun hB _ hF => .move (lk 16 rfl rfl)) ?_
        refine S.gsil 39 7 37 true rfl rfl rfl (lk 1 rfl rfl) (fun hB _ hF => .move (lk 13 rfl rfl)) ?_
        obtain ⟨j10, m10, h6⟩ := h6.bnd
        refine S.gsil 40 7 37 true rfl rfl rfl (lk 2 rfl rfl) (fun hB _ hF => .ixS sli41 (ifT hB (lk 1 rfl rfl)) (ifT hB (lk 0 rfl rfl)) (gd_get m10 hB)) ?_
        refine S.gsil 41 7 37 true rfl rfl rfl (lk 3 rfl rfl) (fun hB _ hF => .fieldAddrC lay81 rfl rfl (ifT hB (lk 0 rfl rfl)) rfl (flL_c (show flen _ = 1 from rfl) flL_nil)) ?_
        refine S.gsil 42 7 37 true rfl rfl rfl (lk 4 rfl rfl) (fun hB _ hF => .loadC sz3 ag3 (ifT hB (lk 0 rfl rfl)) rfl rfl) ?_
        refine S.gsil 43 7 37 true rfl rfl rfl (lk 5 rfl rfl) (fun hB _ hF => .move (lk 23 rfl rfl)) ?_
        refine S.gsil 44 7 37 true rfl rfl rfl (lk 6 rfl rfl) (fun hB _ hF => .eql (ifT hB (lk 1 rfl rfl)) (ifT hB (lk 0 rfl rfl))) ?_
        obtain ⟨v11, ev11, h6⟩ := h6.nam
        refine S.sil 45 rfl rfl (fun _ hF => .nv (.pickAnd (lk 7 rfl rfl) (fun h => ifT h (lk 0 rfl rfl)) cB) (congrArg V.bool ev11.symm)) ?_
        refine S.nil ?_
        refine thenQ_n ?_
        refine AWp.condM (lk 0 rfl rfl) h6 (fun c3 h6 => ?_) (fun c3 h6 => ?_)
        · skip
          refine AWp.seq ?_
          refine AWp.seq ?_
          refine W.reg [0, 1, 2, 3, 4, 5] rfl ?_
          refine S.sil 46 rfl rfl (fun _ hF => .move (lk 24 rfl rfl)) ?_
          refine S.sil 47 rfl rfl (fun _ hF => .move (lk 21 rfl rfl)) ?_
          obtain ⟨j12, m12, h6⟩ := h6.bnd
          refine S.sil 48 rfl rfl (fun _ hF => .ixS sli41 (lk 1 rfl rfl) (lk 0 rfl rfl) m12) ?_
          refine S.sil 49 rfl rfl (fun _ hF => .fieldAddrC lay81 rfl rfl (lk 0 rfl rfl) rfl (flL_c (show flen _ = 1 from rfl) (flL_c (show flen _ = 1 from rfl) (flL_c (show flen _ = 1 from rfl) (flL_c (show flen _ = 1 from rfl) flL_nil))))) ?_
          refine S.sil 50 rfl rfl (fun _ hF => .loadC sz3 ag3 (lk 0 rfl rfl) rfl rfl) ?_
          refine S.sil 51 rfl rfl (fun _ hF => .neq (lk 0 rfl rfl) cI) ?_
          refine S.nil ?_
          refine thenQ_n ?_
          refine AWp.condM (lk 0 rfl rfl) h6 (fun c4 h6 => ?_) (fun c4 h6 => ?_)
          · skip
            refine AWp.seq ?_
            refine W.reg [0, 1, 2] rfl ?_
            refine S.sil 8 rfl rfl (fun _ hF => .assign cNs) ?_
            refine S.sil 9 rfl rfl (fun _ hF => .assign cI) ?_
            refine S.sil 10 rfl rfl (fun _ hF => .assign cI) ?_
            refine S.nil ?_
            refine thenQ_n ?_
            refine AWp.prune (.eq (lk 0 rfl rfl) rfl (.eq (lk 1 rfl rfl) rfl (.eq (lk 2 rfl rfl) rfl (.eq (lk 3 rfl rfl) rfl (.eq (lk 4 rfl rfl) rfl (.eq (lk 5 rfl rfl) rfl (.eq (lk 6 rfl rfl) rfl (.eq (lk 7 rfl rfl) rfl (.eq (lk 8 rfl rfl) rfl (.eq (lk 9 rfl rfl) rfl (.eq (lk 17 rfl rfl) rfl (.eq (lk 18 rfl rfl) rfl (.eq (lk 19 rfl rfl) rfl (.eq (lk 20 rfl rfl) rfl (.eq (lk 21 rfl rfl) rfl (.eq (lk 22 rfl rfl) rfl (.eq (lk 23 rfl rfl) rfl (.eq (lk 24 rfl rfl) rfl (.eq (lk 25 rfl rfl) rfl (.eq (lk 26 rfl rfl) rfl (.eq (lk 27 rfl rfl) rfl (.eq (lk 28 rfl rfl) rfl (.eq (lk 29 rfl rfl) rfl (.eq (lk 33 rfl rfl) rfl (.eq (lk 34 rfl rfl) rfl (.eq (lk 35 rfl rfl) rfl (.eq (lk 36 rfl rfl) rfl .nil))))))))))))))))))))))))))) ?_
            refine AWp.ret ?_
            refine thenQ_r ?_
            refine blockQ_r ?_
            refine thenQ_r ?_
            refine thenQ_r ?_
            refine blockQ_r ?_
            refine thenQ_r ?_
            refine thenQ_r ?_
            have h := Ok.inrq h h6.ret
            obtain rfl := h.ret
            exact endFN rfl (Wk.selS [] .nil rfl (SelE.leaf (lk 2 rfl rfl) rfl (.nils_no _) (fun m => (ty_S_THold.lt ([] : List THold) _)) (SelE.leaf (lk 1 rfl rfl) rfl (.refl _) (fun m => ((TyOk.int .i64).lt _ _)) (SelE.leaf (lk 0 rfl rfl) rfl (.refl _) (fun m => ((TyOk.int .i64).lt _ _)) .nil))) .nil) (.cons (.tmp (lk 0 rfl rfl) rfl) (.cons (.tmp (lk 1 rfl rfl) rfl) (.cons (.tmp (lk 2 rfl rfl) rfl) .nil))) rfl rfl rfl
          · skip
            refine AWp.skip ?_
            refine thenQ_n ?_
            refine AWp.seq ?_
            refine W.reg [0, 1, 2, 3] rfl ?_
            refine S.sil 52 rfl rfl (fun _ hF => .buildSliceW sli41 zv81 rfl rfl (by decide) .nil) ?_
            refine S.sil 53 rfl rfl (fun _ hF => .move (lk 31 rfl rfl)) ?_
            obtain ⟨l13, m13, h6⟩ := h6.bnd
            refine S.eff 54 rfl rfl (.nf (v2 := .slo 5 0 [] 0 0 l13.length 1) (H2 := [.buf 5 (List.map E_THold l13)]) (.appNewT sli41 und41 zv81 rfl (by decide) (lk 1 rfl rfl) (V.sub.refl _) (lk 0 rfl rfl) Rd.sl m13 rfl) rfl rfl) trivial ?_
            refine S.sil 12 rfl rfl (fun _ hF => .assign (lk 0 rfl rfl)) ?_
            refine S.nil ?_
            refine thenQ_n ?_
            refine AWp.seq ?_
            refine W.reg [0, 1, 2, 3, 4, 5] rfl ?_
            refine S.sil 55 rfl rfl (fun _ hF => .move (lk 0 rfl rfl)) ?_
            refine S.sil 56 rfl rfl (fun _ hF => .move (lk 31 rfl rfl)) ?_
            refine S.sil 57 rfl rfl (fun _ hF => .move (lk 39 rfl rfl)) ?_
            obtain ⟨j14, m14, h6⟩ := h6.bnd
            refine S.sil 58 rfl rfl (fun _ hF => .ixO sli41 (lk 2 rfl rfl) (lk 1 rfl rfl) (by first | rfl | simp) m14) ?_
            refine S.sil 59 rfl rfl (fun _ hF => .fieldAddr lay81 rfl rfl (lk 0 rfl rfl)) ?_
            obtain ⟨v15, ev15, h6⟩ := h6.nam
            refine S.effN rfl rfl (.nf (H2 := [.buf 5 (List.map E_THold v15)]) (.storeB sz3 (lk 0 rfl rfl) (lk 2 rfl rfl) rfl (.refl _) rfl (.ls (by have := six_lt m14; simp at this ⊢; omega) (.st rfl (flL_c (show flen _ = 1 from rfl) (flL_c (show flen _ = 1 from rfl) (flL_c (show flen _ = 1 from rfl) (flL_c (show flen _ = 1 from rfl) flL_nil)))) .nil)) (by first | rfl | omega) (.ls ({ (l13.getD j14 default) with State := a4 }) (by have := six_lt m14; simp at this ⊢; omega) (.st rfl .nil rfl)) rfl rfl (congrArg (fun z => ([AObj.buf 5 (List.map E_THold z)] : List AObj)) ev15.symm)) rfl rfl) trivial ?_
            refine S.nil ?_
            refine thenQ_n ?_
            refine AWp.seq ?_
            refine W.regD [0, 1, 2, 3, 4, 5, 6, 7, 8] mixed ?_
            refine S.sil 60 rfl rfl (fun _ hF => .move (lk 5 rfl rfl)) ?_
            refine S.sil 61 rfl rfl (fun _ hF => .move (lk 40 rfl rfl)) ?_
            refine S.sil 62 rfl rfl (fun _ hF => .move (lk 37 rfl rfl)) ?_
            obtain ⟨j16, m16, h6⟩ := h6.bnd
            refine S.sil 63 rfl rfl (fun _ hF => .ixS sli41 (lk 1 rfl rfl) (lk 0 rfl rfl) m16) ?_
            refine S.sil 64 rfl rfl (fun _ hF => .fieldAddrC lay81 rfl rfl (lk 0 rfl rfl) rfl (flL_c (show flen _ = 1 from rfl) (flL_c (show flen _ = 1 from rfl) flL_nil))) ?_
            refine S.sil 65 rfl rfl (fun _ hF => .loadC sz3 ag3 (lk 0 rfl rfl) rfl rfl) ?_
            refine S.sil 8 rfl rfl (fun _ hF => .assign (lk 5 rfl rfl)) ?_
            obtain ⟨v17, ev17, h6⟩ := h6.nam
            refine S.sil 9 rfl rfl (fun _ hF => .nv (.assign (lk 1 rfl rfl)) (congrArg (V.int .i64) ev17.symm)) ?_
            refine S.sil 10 rfl rfl (fun _ hF => .assign cI) ?_
            refine S.nilD (by kernel_rfl) ?_
            refine thenQ_n ?_
            refine AWp.prune (.eq (lk 0 rfl rfl) rfl (.eq (lk 1 rfl rfl) rfl (.eq (lk 2 rfl rfl) rfl (.eq (lk 3 rfl rfl) rfl (.eq (lk 4 rfl rfl) rfl (.eq (lk 5 rfl rfl) rfl (.eq (lk 6 rfl rfl) rfl (.eq (lk 7 rfl rfl) rfl (.eq (lk 8 rfl rfl) rfl (.eq (lk 9 rfl rfl) rfl (.eq (lk 10 rfl rfl) rfl (.eq (lk 11 rfl rfl) rfl (.eq (lk 12 rfl rfl) rfl (.eq (lk 13 rfl rfl) rfl (.eq (lk 14 rfl rfl) rfl (.eq (lk 15 rfl rfl) rfl (.eq (lk 16 rfl rfl) rfl (.eq (lk 17 rfl rfl) rfl (.eq (lk 18 rfl rfl) rfl (.eq (lk 19 rfl rfl) rfl (.eq (lk 20 rfl rfl) rfl (.eq (lk 21 rfl rfl) rfl (.eq (lk 22 rfl rfl) rfl (.eq (lk 23 rfl rfl) rfl (.eq (lk 24 rfl rfl) rfl (.eq (lk 32 rfl rfl) rfl (.eq (lk 33 rfl rfl) rfl (.eq (lk 34 rfl rfl) rfl (.eq (lk 35 rfl rfl) rfl (.eq (lk 36 rfl rfl) rfl (.eq (lk 37 rfl rfl) rfl (.eq (lk 38 rfl rfl) rfl (.eq (lk 39 rfl rfl) rfl (.eq (lk 40 rfl rfl) rfl (.eq (lk 41 rfl rfl) rfl (.eq (lk 42 rfl rfl) rfl (.eq (lk 43 rfl rfl) rfl (.eq (lk 44 rfl rfl) rfl (.eq (lk 48 rfl rfl) rfl (.eq (lk 49 rfl rfl) rfl (.eq (lk 50 rfl rfl) rfl (.eq (lk 51 rfl rfl) rfl .nil)))))))))))))))))))))))))))))))))))))))))) ?_
            refine AWp.ret ?_
            refine blockQ_r ?_
            refine thenQ_r ?_
            refine thenQ_r ?_
            refine blockQ_r ?_
            refine thenQ_r ?_
            refine thenQ_r ?_
            have h := Ok.inrq h h6.ret
            refine endF_wk (Wk.freeze 0 rfl rfl (.same (lk 0 rfl rfl) (.same (lk 1 rfl rfl) (.cons (lk 2 rfl rfl) rfl (.slo (by first | rfl | simp [ev15])) .nil))) (.refl _)) ?_
            obtain rfl := h.ret
            exact endFN rfl (Wk.selS [] .nil rfl (SelE.leaf (lk 2 rfl rfl) rfl (.refl _) (fun m => (ty_S_THold.lt _ _)) (SelE.leaf (lk 1 rfl rfl) rfl (.refl _) (fun m => ((TyOk.int .i64).lt _ _)) (SelE.leaf (lk 0 rfl rfl) rfl (.refl _) (fun m => ((TyOk.int .i64).lt _ _)) .nil))) .nil) (.cons (.tmp (lk 0 rfl rfl) rfl) (.cons (.tmp (lk 1 rfl rfl) rfl) (.cons (.tmp (lk 2 rfl rfl) rfl) .nil))) rfl rfl rfl
        · skip
          refine AWp.skip ?_
          refine blockQ_n ?_
          refine thenQ_n ?_
          refine W.reg [0, 1, 2] rfl ?_
          refine S.sil 28 rfl rfl (fun _ hF => .move (lk 20 rfl rfl)) ?_
          refine S.sil 29 rfl rfl (fun _ hF => .add (lk 0 rfl rfl) cI) ?_
          refine S.sil 11 rfl rfl (fun _ hF => .assign (lk 0 rfl rfl)) ?_
          refine S.nil ?_
          refine thenQ_n ?_
          exact ⟨_, h6.ret, (Wk.selS [] (by decide) rfl (SelE.leaf (lk 0 rfl rfl) rfl (.refl _) (fun m => ((TyOk.int .i64).lt _ _)) (SelE.leaf (lk 24 rfl rfl) rfl (.refl _) (fun m => ((TyOk.int .i64).lt _ _)) (SelE.leaf (lk 25 rfl rfl) rfl (.refl _) (fun m => ((TyOk.int .i64).lt _ _)) (SelE.leaf (lk 26 rfl rfl) rfl (.refl _) (fun m => rfl) (SelE.leaf (lk 27 rfl rfl) rfl (.refl _) (fun m => (lt_sl rfl (ty_THold.ltm _ _))) (SelE.leaf (lk 28 rfl rfl) rfl (.refl _) (fun m => ((TyOk.int .i64).lt _ _)) (SelE.leaf (lk 29 rfl rfl) rfl (.refl _) (fun m => ((TyOk.int .i64).lt _ _)) (SelE.leaf (lk 30 rfl rfl) rfl (.refl _) (fun m => ((TyOk.int .i64).lt _ _)) .nil)))))))) .nil)⟩
      · skip
        refine AWp.exit ?_
        refine thenQ_x ?_
        refine thenQ_x ?_
        refine blockQ_x ?_
        refine thenQ_n ?_
        exact ⟨_, h6.ret, (Wk.selS [] (by decide) rfl (SelE.leaf (lk 5 rfl rfl) rfl (.refl _) (fun m => ((TyOk.int .i64).lt _ _)) (SelE.leaf (lk 6 rfl rfl) rfl (.refl _) (fun m => ((TyOk.int .i64).lt _ _)) (SelE.leaf (lk 7 rfl rfl) rfl (.refl _) (fun m => rfl) .nil))) .nil)⟩
    · skip
      refine thenQ_n ?_
      refine AWp.seq ?_
      refine W.reg [0, 1, 2] rfl ?_
      refine S.sil 8 rfl rfl (fun _ hF => .assign cNs) ?_
      refine S.sil 9 rfl rfl (fun _ hF => .assign cI) ?_
      refine S.sil 10 rfl rfl (fun _ hF => .assign cI) ?_
      refine S.nil ?_
      refine thenQ_n ?_
      refine AWp.ret ?_
      obtain rfl := h.ret
      exact endFN rfl (Wk.selS [] .nil rfl (SelE.leaf (lk 2 rfl rfl) rfl (.nils_no _) (fun m => (ty_S_THold.lt ([] : List THold) _)) (SelE.leaf (lk 1 rfl rfl) rfl (.refl _) (fun m => ((TyOk.int .i64).lt _ _)) (SelE.leaf (lk 0 rfl rfl) rfl (.refl _) (fun m => ((TyOk.int .i64).lt _ _)) .nil))) .nil) (.cons (.tmp (lk 0 rfl rfl) rfl) (.cons (.tmp (lk 1 rfl rfl) rfl) (.cons (.tmp (lk 2 rfl rfl) rfl) .nil))) rfl rfl rfl
theorem C_usufructref02_Grow {a1 : Vector Int 16} {a2 : Int} {a3 : Int} {r : (Vector Int 16) × Int} (h : usufructref02_Grow a1 a2 a3 = some r) : PureC Pg 156 [E_A16_i64 a1, (V.int .i64) a2, (V.int .i64) a3] (.tup [E_A16_i64 r.1, (V.int .i64) r.2]) := by
  refine PureC.ofF (CallSpec.of_bodyF 37 0 fn156 rfl rfl rfl (Nat.le_of_ble_eq_true rfl) ?_) (ltL_c (ty_A16_i64.lt _ _) (ltL_c ((TyOk.int .i64).lt _ _) (ltL_c ((TyOk.int .i64).lt _ _) ltL_nil))) (lt_tup (ltL_c (ty_A16_i64.lt _ _) (ltL_c ((TyOk.int .i64).lt _ _) ltL_nil)))
  replace h := Ok.of h
  unfold usufructref02_Grow at h
  refine AWp.seq ?_
  refine W.reg [0, 1, 2] rfl ?_
  refine S.eff 3 rfl rfl (.nf (v2 := .ptr 0 [] 0) (H2 := [.cells (E_A16_i64 a1)]) (.box (lk 0 rfl rfl) rfl) rfl rfl) trivial ?_
  refine S.eff 6 rfl rfl (.nf (v2 := .ptr 1 [] 0) (H2 := [.cells (E_A16_i64 a1), .cells (E_A16_i64 (default : Vector Int 16))]) (.alloc zv33) rfl rfl) trivial ?_
  refine S.sil 7 rfl rfl (fun _ hF => .assign cI) ?_
  refine S.nil ?_
  refine thenQ_n ?_
  refine AWp.seq ?_
  refine AWp.seq ?_
  refine W.reg [0, 1, 2, 3, 4, 5, 6, 7, 8, 9] rfl ?_
  refine S.sil 10 rfl rfl (fun _ hF => .move (lk 4 rfl rfl)) ?_
  refine S.sil 11 rfl rfl (fun _ hF => .lss (lk 0 rfl rfl) cI) ?_
  refine S.sil 12 rfl rfl (fun _ hF => .move (lk 0 rfl rfl)) ?_
  refine S.gsil 13 2 12 false rfl rfl rfl (lk 0 rfl rfl) (fun hB _ hF => .move (lk 7 rfl rfl)) ?_
  refine S.gsil 14 2 12 false rfl rfl rfl (lk 1 rfl rfl) (fun hB _ hF => .gtr (ifT hB (lk 0 rfl rfl)) cI) ?_
  refine S.sil 15 rfl rfl (fun _ hF => .pickOr (lk 2 rfl rfl) cB (fun h => ifT h (lk 0 rfl rfl))) ?_
  refine S.sil 16 rfl rfl (fun _ hF => .move (lk 0 rfl rfl)) ?_
  refine S.gsil 17 6 16 false rfl rfl rfl (lk 0 rfl rfl) (fun hB _ hF => .move (lk 12 rfl rfl)) ?_
  refine S.gsil 18 6 16 false rfl rfl rfl (lk 1 rfl rfl) (fun hB _ hF => .lss (ifT hB (lk 0 rfl rfl)) cI) ?_
  refine S.sil 19 rfl rfl (fun _ hF => .pickOr (lk 2 rfl rfl) cB (fun h => ifT h (lk 0 rfl rfl))) ?_
  refine S.nil ?_
  refine thenQ_n ?_
  refine AWp.prune (.eq (lk 0 rfl rfl) rfl (.eq (lk 10 rfl rfl) rfl (.eq (lk 11 rfl rfl) rfl (.eq (lk 12 rfl rfl) rfl (.eq (lk 14 rfl rfl) rfl (.eq (lk 15 rfl rfl) rfl .nil)))))) ?_
  refine AWp.condM (lk 0 rfl rfl) h (fun c1 h => ?_) (fun c1 h => ?_)
  · skip
    refine AWp.seq ?_
    refine W.reg [0, 1, 2] rfl ?_
    refine S.sil 20 rfl rfl (fun _ hF => .buildArrL (w := E_A16_i64 (default : Vector Int 16)) arr33 zv33 .nil rfl rfl) ?_
    obtain ⟨v4, ev4, h⟩ := h.nam
    refine S.effN rfl rfl (.nf (H2 := [.cells (E_A16_i64 a1), .cells (E_A16_i64 v4)]) (.storeP sz33 (lk 3 rfl rfl) (lk 0 rfl rfl) rfl (.refl _) rfl .nil (by first | rfl | omega) .nil (ty_A16_i64.fl (default : Vector Int 16)) (ty_A16_i64.fl (default : Vector Int 16)) (congrArg (fun z => ([.cells (E_A16_i64 a1), AObj.cells (E_A16_i64 z)] : List AObj)) ev4.symm)) rfl rfl) trivial ?_
    refine S.sil 7 rfl rfl (fun _ hF => .assign cI) ?_
    refine S.nil ?_
    refine thenQ_n ?_
    refine AWp.ret ?_
    refine thenQ_r ?_
    refine endF_wk (Wk.freeze 1 rfl rfl (.same (lk 0 rfl rfl) (.same (lk 0 rfl rfl) (.cons (lk 4 rfl rfl) rfl (.ptr .nil (by first | rfl | omega)) .nil))) (.refl _)) ?_
    obtain rfl := h.ret
    exact endFN rfl (Wk.selS [] .nil rfl (SelE.leaf (lk 2 rfl rfl) rfl (.refl _) (fun m => (lt_cptr (ty_A16_i64.lt _ _))) (SelE.leaf (lk 0 rfl rfl) rfl (.refl _) (fun m => ((TyOk.int .i64).lt _ _)) .nil)) .nil) (.cons (.cellC sz33 ag33 (lk 0 rfl rfl) (ty_A16_i64.fl _) rfl) (.cons (.tmp (lk 1 rfl rfl) rfl) .nil)) rfl rfl rfl
  · skip
    refine AWp.skip ?_
    refine thenQ_n ?_
    refine AWp.seq ?_
    refine W.reg [0, 1, 2, 3, 4, 5, 6, 7, 8, 9] rfl ?_
    refine S.sil 22 rfl rfl (fun _ hF => .move (lk 4 rfl rfl)) ?_
    obtain ⟨k5, m5, h⟩ := h.bnd
    refine S.sil 23 rfl rfl (fun _ hF => .ixP arr33 (lk 4 rfl rfl) (lk 0 rfl rfl) m5) ?_
    refine S.qui 24 rfl rfl (fun _ => .loadP sz3 ag3 (lk 0 rfl rfl) rfl (.vc k5 .nil) (by first | rfl | omega) rfl rfl) ?_
    refine S.sil 25 rfl rfl (fun _ hF => .move (lk 8 rfl rfl)) ?_
    obtain ⟨r6, m6, h⟩ := h.bnd
    refine S.sil 26 rfl rfl (fun _ hF => .callQ ent90 cF (.c (lk 1 rfl rfl) (V.sub.refl _) (.c (lk 0 rfl rfl) (V.sub.refl _) .nil)) (C_usufructref01_Add m6)) ?_
    refine S.sil 21 rfl rfl (fun _ hF => .move (lk 0 rfl rfl)) ?_
    refine S.sil 27 rfl rfl (fun _ hF => .extract (lk 0 rfl rfl) rfl) ?_
    refine S.sil 28 rfl rfl (fun _ hF => .extract (lk 1 rfl rfl) rfl) ?_
    refine S.sil 8 rfl rfl (fun _ hF => .assign (lk 1 rfl rfl)) ?_
    refine S.sil 9 rfl rfl (fun _ hF => .assign (lk 1 rfl rfl)) ?_
    refine S.nil ?_
    refine thenQ_n ?_
    refine AWp.prune (.eq (lk 0 rfl rfl) rfl (.eq (lk 1 rfl rfl) rfl (.eq (lk 11 rfl rfl) rfl (.eq (lk 12 rfl rfl) rfl (.eq (lk 13 rfl rfl) rfl (.eq (lk 14 rfl rfl) rfl .nil)))))) ?_
    refine AWp.seq ?_
    refine AWp.seq ?_
    refine W.reg [0, 1] rfl ?_
    refine S.sil 29 rfl rfl (fun _ hF => .move (lk 0 rfl rfl)) ?_
    refine S.sil 30 rfl rfl (fun _ hF => .neq (lk 0 rfl rfl) cI) ?_
    refine S.nil ?_
    refine thenQ_n ?_
    refine AWp.condM (lk 0 rfl rfl) h (fun c2 h => ?_) (fun c2 h => ?_)
    · skip
      refine AWp.seq ?_
      refine W.reg [0, 1, 2, 3] rfl ?_
      refine S.sil 31 rfl rfl (fun _ hF => .buildArrL (w := E_A16_i64 (default : Vector Int 16)) arr33 zv33 .nil rfl rfl) ?_
      refine S.sil 32 rfl rfl (fun _ hF => .move (lk 3 rfl rfl)) ?_
      obtain ⟨v7, ev7, h⟩ := h.nam
      refine S.effN rfl rfl (.nf (H2 := [.cells (E_A16_i64 a1), .cells (E_A16_i64 v7)]) (.storeP sz33 (lk 7 rfl rfl) (lk 1 rfl rfl) rfl (.refl _) rfl .nil (by first | rfl | omega) .nil (ty_A16_i64.fl (default : Vector Int 16)) (ty_A16_i64.fl (default : Vector Int 16)) (congrArg (fun z => ([.cells (E_A16_i64 a1), AObj.cells (E_A16_i64 z)] : List AObj)) ev7.symm)) rfl rfl) trivial ?_
      refine S.sil 7 rfl rfl (fun _ hF => .assign (lk 0 rfl rfl)) ?_
      refine S.nil ?_
      refine thenQ_n ?_
      refine AWp.ret ?_
      refine thenQ_r ?_
      refine endF_wk (Wk.freeze 1 rfl rfl (.same (lk 0 rfl rfl) (.same (lk 0 rfl rfl) (.cons (lk 8 rfl rfl) rfl (.ptr .nil (by first | rfl | omega)) .nil))) (.refl _)) ?_
      obtain rfl := h.ret
      exact endFN rfl (Wk.selS [] .nil rfl (SelE.leaf (lk 2 rfl rfl) rfl (.refl _) (fun m => (lt_cptr (ty_A16_i64.lt _ _))) (SelE.leaf (lk 0 rfl rfl) rfl (.refl _) (fun m => ((TyOk.int .i64).lt _ _)) .nil)) .nil) (.cons (.cellC sz33 ag33 (lk 0 rfl rfl) (ty_A16_i64.fl _) rfl) (.cons (.tmp (lk 1 rfl rfl) rfl) .nil)) rfl rfl rfl
    · skip
      refine AWp.skip ?_
      refine thenQ_n ?_
      refine AWp.seq ?_
      refine W.reg [0, 1, 2, 3] rfl ?_
      refine S.sil 33 rfl rfl (fun _ hF => .move (lk 7 rfl rfl)) ?_
      refine S.sil 34 rfl rfl (fun _ hF => .move (lk 4 rfl rfl)) ?_
      obtain ⟨k8, m8, h⟩ := h.bnd
      refine S.sil 35 rfl rfl (fun _ hF => .ixP arr33 (lk 8 rfl rfl) (lk 1 rfl rfl) m8) ?_
      obtain ⟨v9, ev9, h⟩ := h.nam
      refine S.effN rfl rfl (.nf (H2 := [.cells (E_A16_i64 v9), .cells (E_A16_i64 (default : Vector Int 16))]) (.storeP sz3 (lk 0 rfl rfl) (lk 1 rfl rfl) rfl (.refl _) rfl (.vc k8 .nil) (by first | rfl | omega) (.vc r6.1 k8 .nil) rfl rfl (congrArg (fun z => ([AObj.cells (E_A16_i64 z), .cells (E_A16_i64 (default : Vector Int 16))] : List AObj)) ev9.symm)) rfl rfl) trivial ?_
      refine S.nil ?_
      refine thenQ_n ?_
      refine AWp.seq ?_
      refine W.reg [0, 1, 2] rfl ?_
      refine S.qui 36 rfl rfl (fun _ => .loadP sz33 ag33 (lk 9 rfl rfl) rfl .nil (by first | rfl | omega) (ty_A16_i64.fl v9) rfl) ?_
      refine S.effN rfl rfl (.nf (H2 := [.cells (E_A16_i64 v9), .cells (E_A16_i64 v9)]) (.storeP sz33 (lk 9 rfl rfl) (lk 0 rfl rfl) rfl (.refl _) rfl .nil (by first | rfl | omega) .nil (ty_A16_i64.fl v9) (ty_A16_i64.fl (default : Vector Int 16)) rfl) rfl rfl) trivial ?_
      refine S.sil 7 rfl rfl (fun _ hF => .assign cI) ?_
      refine S.nil ?_
      refine thenQ_n ?_
      refine AWp.prune (.eq (lk 0 rfl rfl) rfl (.eq (lk 10 rfl rfl) rfl .nil)) ?_
      refine AWp.ret ?_
      refine endF_wk (Wk.freeze 1 rfl rfl (.same (lk 0 rfl rfl) (.cons (lk 1 rfl rfl) rfl (.ptr .nil (by first | rfl | omega)) .nil)) (.refl _)) ?_
      obtain rfl := h.ret
      exact endFN rfl (Wk.selS [] .nil rfl (SelE.leaf (lk 1 rfl rfl) rfl (.refl _) (fun m => (lt_cptr (ty_A16_i64.lt _ _))) (SelE.leaf (lk 0 rfl rfl) rfl (.refl _) (fun m => ((TyOk.int .i64).lt _ _)) .nil)) .nil) (.cons (.cellC sz33 ag33 (lk 0 rfl rfl) (ty_A16_i64.fl _) rfl) (.cons (.tmp (lk 1 rfl rfl) rfl) .nil)) rfl rfl rfl
theorem C_usufructref03_Use {a1 : TRights} {a2 : Int} {a3 : Int} {r : TRights × Int} (h : usufructref03_Use a1 a2 a3 = some r) : PureC Pg 127 [E_TRights a1, (V.int .i64) a2, (V.int .i64) a3] (.tup [E_TRights r.1, (V.int .i64) r.2]) := by
  refine PureC.ofF (CallSpec.of_bodyF 43 0 fn127 rfl rfl rfl (Nat.le_of_ble_eq_true rfl) ?_) (ltL_c (ty_TRights.lt _ _) (ltL_c ((TyOk.int .i64).lt _ _) (ltL_c ((TyOk.int .i64).lt _ _) ltL_nil))) (lt_tup (ltL_c (ty_TRights.lt _ _) (ltL_c ((TyOk.int .i64).lt _ _) ltL_nil)))
  replace h := Ok.of h
  unfold usufructref03_Use at h
  refine AWp.seq ?_
  refine W.reg [0, 1, 2] rfl ?_
  refine S.eff 3 rfl rfl (.nf (v2 := .ptr 0 [] 0) (H2 := [.cells (E_TRights a1)]) (.box (lk 0 rfl rfl) rfl) rfl rfl) trivial ?_
  refine S.eff 6 rfl rfl (.nf (v2 := .ptr 1 [] 0) (H2 := [.cells (E_TRights a1), .cells (E_TRights (default : TRights))]) (.alloc zv36) rfl rfl) trivial ?_
  refine S.sil 7 rfl rfl (fun _ hF => .assign cI) ?_
  refine S.nil ?_
  refine thenQ_n ?_
  refine AWp.seq ?_
  refine AWp.seq ?_
  refine W.reg [0, 1] rfl ?_
  refine S.sil 11 rfl rfl (fun _ hF => .move (lk 5 rfl rfl)) ?_
  refine S.sil 12 rfl rfl (fun _ hF => .lss (lk 0 rfl rfl) cI) ?_
  refine S.nil ?_
  refine thenQ_n ?_
  refine AWp.condM (lk 0 rfl rfl) h (fun c1 h => ?_) (fun c1 h => ?_)
  · skip
    refine AWp.seq ?_
    refine W.reg [0, 1, 2] rfl ?_
    obtain ⟨v4, ev4, h⟩ := h.nam
    refine S.sil 13 rfl rfl (fun _ hF => .nv (.nv (v2 := E_TRights (⟨(default : Vector Int 16), (default : Vector Int 16), (default : Vector (Vector Int 16) 16)⟩ : TRights)) (.buildStW lay36 zv36 rfl .nil) rfl) (congrArg E_TRights ev4.symm)) ?_
    refine S.effN rfl rfl (.nf (H2 := [.cells (E_TRights a1), .cells (E_TRights v4)]) (.storeP sz36 (lk 4 rfl rfl) (lk 0 rfl rfl) rfl (.refl _) rfl .nil (by first | rfl | omega) .nil (ty_TRights.fl v4) (ty_TRights.fl (default : TRights)) rfl) rfl rfl) trivial ?_
    refine S.sil 7 rfl rfl (fun _ hF => .assign cI) ?_
    refine S.nil ?_
    refine thenQ_n ?_
    refine AWp.ret ?_
    refine thenQ_r ?_
    refine endF_wk (Wk.freeze 1 rfl rfl (.same (lk 0 rfl rfl) (.same (lk 0 rfl rfl) (.cons (lk 5 rfl rfl) rfl (.ptr .nil (by first | rfl | omega)) .nil))) (.refl _)) ?_
    obtain rfl := h.ret
    exact endFN rfl (Wk.selS [] .nil rfl (SelE.leaf (lk 2 rfl rfl) rfl (.refl _) (fun m => (lt_cptr (ty_TRights.lt _ _))) (SelE.leaf (lk 0 rfl rfl) rfl (.refl _) (fun m => ((TyOk.int .i64).lt _ _)) .nil)) .nil) (.cons (.cellC sz36 ag36 (lk 0 rfl rfl) (ty_TRights.fl _) rfl) (.cons (.tmp (lk 1 rfl rfl) rfl) .nil)) rfl rfl rfl
  · skip
    refine AWp.skip ?_
    refine thenQ_n ?_
    refine AWp.seq ?_
    refine W.reg [0, 1, 2, 3, 4, 5, 6, 7] rfl ?_
    refine S.qui 15 rfl rfl (fun _ => .loadP sz36 ag36 (lk 4 rfl rfl) rfl .nil (by first | rfl | omega) (ty_TRights.fl a1) rfl) ?_
    refine S.sil 16 rfl rfl (fun _ hF => .move (lk 7 rfl rfl)) ?_
    obtain ⟨r5, m5, h⟩ := h.bnd
    refine S.sil 17 rfl rfl (fun _ hF => .callQ ent68 cF (.c (lk 1 rfl rfl) (V.sub.refl _) (.c (lk 0 rfl rfl) (V.sub.refl _) .nil)) (C_usufructref03_Free m5)) ?_
    refine S.sil 14 rfl rfl (fun _ hF => .move (lk 0 rfl rfl)) ?_
    refine S.sil 18 rfl rfl (fun _ hF => .extract (lk 0 rfl rfl) rfl) ?_
    refine S.sil 19 rfl rfl (fun _ hF => .extract (lk 1 rfl rfl) rfl) ?_
    refine S.sil 8 rfl rfl (fun _ hF => .assign (lk 1 rfl rfl)) ?_
    refine S.sil 9 rfl rfl (fun _ hF => .assign (lk 1 rfl rfl)) ?_
    refine S.nil ?_
    refine thenQ_n ?_
    refine AWp.seq ?_
    refine AWp.seq ?_
    refine W.reg [0, 1] rfl ?_
    refine S.sil 20 rfl rfl (fun _ hF => .move (lk 0 rfl rfl)) ?_
    refine S.sil 21 rfl rfl (fun _ hF => .neq (lk 0 rfl rfl) cI) ?_
    refine S.nil ?_
    refine thenQ_n ?_
    refine AWp.prune (.eq (lk 0 rfl rfl) rfl (.eq (lk 2 rfl rfl) rfl (.eq (lk 3 rfl rfl) rfl (.eq (lk 12 rfl rfl) rfl (.eq (lk 13 rfl rfl) rfl (.eq (lk 14 rfl rfl) rfl (.eq (lk 16 rfl rfl) rfl (.eq (lk 17 rfl rfl) rfl .nil)))))))) ?_
    refine AWp.condM (lk 0 rfl rfl) h (fun c2 h => ?_) (fun c2 h => ?_)
    · skip
      refine AWp.seq ?_
      refine W.reg [0, 1, 2, 3] rfl ?_
      obtain ⟨v6, ev6, h⟩ := h.nam
      refine S.sil 22 rfl rfl (fun _ hF => .nv (.nv (v2 := E_TRights (⟨(default : Vector Int 16), (default : Vector Int 16), (default : Vector (Vector Int 16) 16)⟩ : TRights)) (.buildStW lay36 zv36 rfl .nil) rfl) (congrArg E_TRights ev6.symm)) ?_
      refine S.sil 23 rfl rfl (fun _ hF => .move (lk 2 rfl rfl)) ?_
      refine S.effN rfl rfl (.nf (H2 := [.cells (E_TRights a1), .cells (E_TRights v6)]) (.storeP sz36 (lk 6 rfl rfl) (lk 1 rfl rfl) rfl (.refl _) rfl .nil (by first | rfl | omega) .nil (ty_TRights.fl v6) (ty_TRights.fl (default : TRights)) rfl) rfl rfl) trivial ?_
      refine S.sil 7 rfl rfl (fun _ hF => .assign (lk 0 rfl rfl)) ?_
      refine S.nil ?_
      refine thenQ_n ?_
      refine AWp.ret ?_
      refine thenQ_r ?_
      refine endF_wk (Wk.freeze 1 rfl rfl (.same (lk 0 rfl rfl) (.same (lk 0 rfl rfl) (.cons (lk 7 rfl rfl) rfl (.ptr .nil (by first | rfl | omega)) .nil))) (.refl _)) ?_
      obtain rfl := h.ret
      exact endFN rfl (Wk.selS [] .nil rfl (SelE.leaf (lk 2 rfl rfl) rfl (.refl _) (fun m => (lt_cptr (ty_TRights.lt _ _))) (SelE.leaf (lk 0 rfl rfl) rfl (.refl _) (fun m => ((TyOk.int .i64).lt _ _)) .nil)) .nil) (.cons (.cellC sz36 ag36 (lk 0 rfl rfl) (ty_TRights.fl _) rfl) (.cons (.tmp (lk 1 rfl rfl) rfl) .nil)) rfl rfl rfl
    · skip
      refine AWp.skip ?_
      refine thenQ_n ?_
      refine AWp.seq ?_
      refine AWp.seq ?_
      refine W.reg [0, 1, 2] rfl ?_
      refine S.sil 24 rfl rfl (fun _ hF => .move (lk 7 rfl rfl)) ?_
      refine S.sil 25 rfl rfl (fun _ hF => .move (lk 3 rfl rfl)) ?_
      refine S.sil 26 rfl rfl (fun _ hF => .gtr (lk 1 rfl rfl) (lk 0 rfl rfl)) ?_
      refine S.nil ?_
      refine thenQ_n ?_
      refine AWp.condM (lk 0 rfl rfl) h (fun c3 h => ?_) (fun c3 h => ?_)
      · skip
        refine AWp.seq ?_
        refine W.reg [0, 1, 2] rfl ?_
        obtain ⟨v7, ev7, h⟩ := h.nam
        refine S.sil 27 rfl rfl (fun _ hF => .nv (.nv (v2 := E_TRights (⟨(default : Vector Int 16), (default : Vector Int 16), (default : Vector (Vector Int 16) 16)⟩ : TRights)) (.buildStW lay36 zv36 rfl .nil) rfl) (congrArg E_TRights ev7.symm)) ?_
        refine S.effN rfl rfl (.nf (H2 := [.cells (E_TRights a1), .cells (E_TRights v7)]) (.storeP sz36 (lk 8 rfl rfl) (lk 0 rfl rfl) rfl (.refl _) rfl .nil (by first | rfl | omega) .nil (ty_TRights.fl v7) (ty_TRights.fl (default : TRights)) rfl) rfl rfl) trivial ?_
        refine S.sil 7 rfl rfl (fun _ hF => .assign cI) ?_
        refine S.nil ?_
        refine thenQ_n ?_
        refine AWp.ret ?_
        refine thenQ_r ?_
        refine endF_wk (Wk.freeze 1 rfl rfl (.same (lk 0 rfl rfl) (.same (lk 0 rfl rfl) (.cons (lk 9 rfl rfl) rfl (.ptr .nil (by first | rfl | omega)) .nil))) (.refl _)) ?_
        obtain rfl := h.ret
        exact endFN rfl (Wk.selS [] .nil rfl (SelE.leaf (lk 2 rfl rfl) rfl (.refl _) (fun m => (lt_cptr (ty_TRights.lt _ _))) (SelE.leaf (lk 0 rfl rfl) rfl (.refl _) (fun m => ((TyOk.int .i64).lt _ _)) .nil)) .nil) (.cons (.cellC sz36 ag36 (lk 0 rfl rfl) (ty_TRights.fl _) rfl) (.cons (.tmp (lk 1 rfl rfl) rfl) .nil)) rfl rfl rfl
      · skip
        refine AWp.skip ?_
        refine thenQ_n ?_
        refine AWp.seq ?_
        refine W.reg [0, 1, 2, 3, 4, 5, 6, 7, 8, 9, 10] rfl ?_
        refine S.sil 29 rfl rfl (fun _ hF => .fieldAddr lay36 rfl rfl (lk 8 rfl rfl)) ?_
        refine S.qui 30 rfl rfl (fun _ => .loadP sz33 ag33 (lk 0 rfl rfl) rfl (.st rfl (flL_c (ty_A16_i64.fl a1.Given) flL_nil) .nil) (by first | rfl | omega) (ty_A16_i64.fl a1.Used) rfl) ?_
        refine S.sil 31 rfl rfl (fun _ hF => .move (lk 11 rfl rfl)) ?_
        refine S.sil 32 rfl rfl (fun _ hF => .move (lk 13 rfl rfl)) ?_
        obtain ⟨r8, m8, h⟩ := h.bnd
        refine S.sil 33 rfl rfl (fun _ hF => .callQ ent156 cF (.c (lk 2 rfl rfl) (V.sub.refl _) (.c (lk 1 rfl rfl) (V.sub.refl _) (.c (lk 0 rfl rfl) (V.sub.refl _) .nil))) (C_usufructref02_Grow m8)) ?_
        refine S.sil 28 rfl rfl (fun _ hF => .move (lk 0 rfl rfl)) ?_
        refine S.sil 34 rfl rfl (fun _ hF => .extract (lk 0 rfl rfl) rfl) ?_
        refine S.sil 35 rfl rfl (fun _ hF => .extract (lk 1 rfl rfl) rfl) ?_
        refine S.eff 10 rfl rfl (.nf (v2 := .ptr 2 [] 0) (H2 := [.cells (E_TRights a1), .cells (E_TRights (default : TRights)), .cells (E_A16_i64 (default : Vector Int 16))]) (.alloc zv33) rfl rfl) trivial ?_
        refine S.effN rfl rfl (.nf (H2 := [.cells (E_TRights a1), .cells (E_TRights (default : TRights)), .cells (E_A16_i64 r8.1)]) (.storeP sz33 (lk 0 rfl rfl) (lk 2 rfl rfl) rfl (.refl _) rfl .nil (by first | rfl | omega) .nil (ty_A16_i64.fl r8.1) (ty_A16_i64.fl (default : Vector Int 16)) rfl) rfl rfl) trivial ?_
        refine S.sil 9 rfl rfl (fun _ hF => .assign (lk 1 rfl rfl)) ?_
        refine S.nil ?_
        refine thenQ_n ?_
        refine AWp.wk (Wk.freeze 2 rfl rfl (.same (lk 0 rfl rfl) (.cons (lk 1 rfl rfl) rfl (.ptr .nil (by first | rfl | omega)) (.same (lk 16 rfl rfl) (.same (lk 17 rfl rfl) (.same (lk 18 rfl rfl) .nil))))) (.refl _)) ?_
        refine AWp.seq ?_
        refine AWp.seq ?_
        refine W.reg [0, 1] rfl ?_
        refine S.sil 36 rfl rfl (fun _ hF => .move (lk 0 rfl rfl)) ?_
        refine S.sil 37 rfl rfl (fun _ hF => .neq (lk 0 rfl rfl) cI) ?_
        refine S.nil ?_
        refine thenQ_n ?_
        refine AWp.condM (lk 0 rfl rfl) h (fun c4 h => ?_) (fun c4 h => ?_)
        · skip
          refine AWp.seq ?_
          refine W.reg [0, 1, 2, 3] rfl ?_
          obtain ⟨v9, ev9, h⟩ := h.nam
          refine S.sil 38 rfl rfl (fun _ hF => .nv (.nv (v2 := E_TRights (⟨(default : Vector Int 16), (default : Vector Int 16), (default : Vector (Vector Int 16) 16)⟩ : TRights)) (.buildStW lay36 zv36 rfl .nil) rfl) (congrArg E_TRights ev9.symm)) ?_
          refine S.sil 39 rfl rfl (fun _ hF => .move (lk 3 rfl rfl)) ?_
          refine S.effN rfl rfl (.nf (H2 := [.cells (E_TRights a1), .cells (E_TRights v9), .dead]) (.storeP sz36 (lk 7 rfl rfl) (lk 1 rfl rfl) rfl (.refl _) rfl .nil (by first | rfl | omega) .nil (ty_TRights.fl v9) (ty_TRights.fl (default : TRights)) rfl) rfl rfl) trivial ?_
          refine S.sil 7 rfl rfl (fun _ hF => .assign (lk 0 rfl rfl)) ?_
          refine S.nil ?_
          refine thenQ_n ?_
          refine AWp.ret ?_
          refine thenQ_r ?_
          refine endF_wk (Wk.freeze 1 rfl rfl (.same (lk 0 rfl rfl) (.same (lk 0 rfl rfl) (.cons (lk 8 rfl rfl) rfl (.ptr .nil (by first | rfl | omega)) .nil))) (.refl _)) ?_
          obtain rfl := h.ret
          exact endFN rfl (Wk.selS [] .nil rfl (SelE.leaf (lk 2 rfl rfl) rfl (.refl _) (fun m => (lt_cptr (ty_TRights.lt _ _))) (SelE.leaf (lk 0 rfl rfl) rfl (.refl _) (fun m => ((TyOk.int .i64).lt _ _)) .nil)) .nil) (.cons (.cellC sz36 ag36 (lk 0 rfl rfl) (ty_TRights.fl _) rfl) (.cons (.tmp (lk 1 rfl rfl) rfl) .nil)) rfl rfl rfl
        · skip
          refine AWp.skip ?_
          refine thenQ_n ?_
          refine AWp.seq ?_
          refine W.reg [0, 1, 2] rfl ?_
          refine S.sil 40 rfl rfl (fun _ hF => .loadC sz33 ag33 (lk 3 rfl rfl) (ty_A16_i64.fl r8.1) rfl) ?_
          refine S.sil 41 rfl rfl (fun _ hF => .fieldAddr lay36 rfl rfl (lk 7 rfl rfl)) ?_
          obtain ⟨v10, ev10, h⟩ := h.nam
          refine S.effN rfl rfl (.nf (H2 := [.cells (E_TRights v10), .cells (E_TRights (default : TRights)), .dead]) (.storeP sz33 (lk 0 rfl rfl) (lk 1 rfl rfl) rfl (.refl _) rfl (.st rfl (flL_c (ty_A16_i64.fl a1.Given) flL_nil) .nil) (by first | rfl | omega) (.st rfl .nil rfl) (ty_A16_i64.fl r8.1) (ty_A16_i64.fl a1.Used) (congrArg (fun z => ([AObj.cells (E_TRights z), .cells (E_TRights (default : TRights)), .dead] : List AObj)) ev10.symm)) rfl rfl) trivial ?_
          refine S.nil ?_
          refine thenQ_n ?_
          refine AWp.seq ?_
          refine W.reg [0, 1, 2] rfl ?_
          refine S.qui 42 rfl rfl (fun _ => .loadP sz36 ag36 (lk 8 rfl rfl) rfl .nil (by first | rfl | omega) (ty_TRights.fl v10) rfl) ?_
          refine S.effN rfl rfl (.nf (H2 := [.cells (E_TRights v10), .cells (E_TRights v10), .dead]) (.storeP sz36 (lk 8 rfl rfl) (lk 0 rfl rfl) rfl (.refl _) rfl .nil (by first | rfl | omega) .nil (ty_TRights.fl v10) (ty_TRights.fl (default : TRights)) rfl) rfl rfl) trivial ?_
          refine S.sil 7 rfl rfl (fun _ hF => .assign cI) ?_
          refine S.nil ?_
          refine thenQ_n ?_
          refine AWp.ret ?_
          refine endF_wk (Wk.freeze 1 rfl rfl (.same (lk 0 rfl rfl) (.same (lk 0 rfl rfl) (.cons (lk 9 rfl rfl) rfl (.ptr .nil (by first | rfl | omega)) .nil))) (.refl _)) ?_
          obtain rfl := h.ret
          exact endFN rfl (Wk.selS [] .nil rfl (SelE.leaf (lk 2 rfl rfl) rfl (.refl _) (fun m => (lt_cptr (ty_TRights.lt _ _))) (SelE.leaf (lk 0 rfl rfl) rfl (.refl _) (fun m => ((TyOk.int .i64).lt _ _)) .nil)) .nil) (.cons (.cellC sz36 ag36 (lk 0 rfl rfl) (ty_TRights.fl _) rfl) (.cons (.tmp (lk 1 rfl rfl) rfl) .nil)) rfl rfl rfl
theorem C_usufructref03_Give {a1 : TRights} {a2 : Int} {a3 : Int} {r : TRights × Int} (h : usufructref03_Give a1 a2 a3 = some r) : PureC Pg 128 [E_TRights a1, (V.int .i64) a2, (V.int .i64) a3] (.tup [E_TRights r.1, (V.int .i64) r.2]) := by
  refine PureC.ofF (CallSpec.of_bodyF 25 0 fn128 rfl rfl rfl (Nat.le_of_ble_eq_true rfl) ?_) (ltL_c (ty_TRights.lt _ _) (ltL_c ((TyOk.int .i64).lt _ _) (ltL_c ((TyOk.int .i64).lt _ _) ltL_nil))) (lt_tup (ltL_c (ty_TRights.lt _ _) (ltL_c ((TyOk.int .i64).lt _ _) ltL_nil)))
  replace h := Ok.of h
  unfold usufructref03_Give at h
  refine AWp.seq ?_
  refine W.reg [0, 1, 2] rfl ?_
  refine S.eff 3 rfl rfl (.nf (v2 := .ptr 0 [] 0) (H2 := [.cells (E_TRights a1)]) (.box (lk 0 rfl rfl) rfl) rfl rfl) trivial ?_
  refine S.eff 6 rfl rfl (.nf (v2 := .ptr 1 [] 0) (H2 := [.cells (E_TRights a1), .cells (E_TRights (default : TRights))]) (.alloc zv36) rfl rfl) trivial ?_
  refine S.sil 7 rfl rfl (fun _ hF => .assign cI) ?_
  refine S.nil ?_
  refine thenQ_n ?_
  refine AWp.seq ?_
  refine W.reg [0, 1, 2, 3, 4, 5, 6, 7, 8, 9, 10] rfl ?_
  refine S.sil 11 rfl rfl (fun _ hF => .fieldAddr lay36 rfl rfl (lk 2 rfl rfl)) ?_
  refine S.qui 12 rfl rfl (fun _ => .loadP sz33 ag33 (lk 0 rfl rfl) rfl (.st rfl flL_nil .nil) (by first | rfl | omega) (ty_A16_i64.fl a1.Given) rfl) ?_
  refine S.sil 13 rfl rfl (fun _ hF => .move (lk 6 rfl rfl)) ?_
  refine S.sil 14 rfl rfl (fun _ hF => .move (lk 8 rfl rfl)) ?_
  obtain ⟨r4, m4, h⟩ := h.bnd
  refine S.sil 15 rfl rfl (fun _ hF => .callQ ent156 cF (.c (lk 2 rfl rfl) (V.sub.refl _) (.c (lk 1 rfl rfl) (V.sub.refl _) (.c (lk 0 rfl rfl) (V.sub.refl _) .nil))) (C_usufructref02_Grow m4)) ?_
  refine S.sil 10 rfl rfl (fun _ hF => .move (lk 0 rfl rfl)) ?_
  refine S.sil 16 rfl rfl (fun _ hF => .extract (lk 0 rfl rfl) rfl) ?_
  refine S.sil 17 rfl rfl (fun _ hF => .extract (lk 1 rfl rfl) rfl) ?_
  refine S.eff 8 rfl rfl (.nf (v2 := .ptr 2 [] 0) (H2 := [.cells (E_TRights a1), .cells (E_TRights (default : TRights)), .cells (E_A16_i64 (default : Vector Int 16))]) (.alloc zv33) rfl rfl) trivial ?_
  refine S.effN rfl rfl (.nf (H2 := [.cells (E_TRights a1), .cells (E_TRights (default : TRights)), .cells (E_A16_i64 r4.1)]) (.storeP sz33 (lk 0 rfl rfl) (lk 2 rfl rfl) rfl (.refl _) rfl .nil (by first | rfl | omega) .nil (ty_A16_i64.fl r4.1) (ty_A16_i64.fl (default : Vector Int 16)) rfl) rfl rfl) trivial ?_
  refine S.sil 9 rfl rfl (fun _ hF => .assign (lk 1 rfl rfl)) ?_
  refine S.nil ?_
  refine thenQ_n ?_
  refine AWp.wk (Wk.freeze 2 rfl rfl (.same (lk 0 rfl rfl) (.cons (lk 1 rfl rfl) rfl (.ptr .nil (by first | rfl | omega)) (.same (lk 10 rfl rfl) (.same (lk 11 rfl rfl) (.same (lk 12 rfl rfl) .nil))))) (.refl _)) ?_
  refine AWp.seq ?_
  refine AWp.seq ?_
  refine W.reg [0, 1] rfl ?_
  refine S.sil 18 rfl rfl (fun _ hF => .move (lk 0 rfl rfl)) ?_
  refine S.sil 19 rfl rfl (fun _ hF => .neq (lk 0 rfl rfl) cI) ?_
  refine S.nil ?_
  refine thenQ_n ?_
  refine AWp.condM (lk 0 rfl rfl) h (fun c1 h => ?_) (fun c1 h => ?_)
  · skip
    refine AWp.seq ?_
    refine W.reg [0, 1, 2, 3] rfl ?_
    obtain ⟨v5, ev5, h⟩ := h.nam
    refine S.sil 20 rfl rfl (fun _ hF => .nv (.nv (v2 := E_TRights (⟨(default : Vector Int 16), (default : Vector Int 16), (default : Vector (Vector Int 16) 16)⟩ : TRights)) (.buildStW lay36 zv36 rfl .nil) rfl) (congrArg E_TRights ev5.symm)) ?_
    refine S.sil 21 rfl rfl (fun _ hF => .move (lk 3 rfl rfl)) ?_
    refine S.effN rfl rfl (.nf (H2 := [.cells (E_TRights a1), .cells (E_TRights v5), .dead]) (.storeP sz36 (lk 7 rfl rfl) (lk 1 rfl rfl) rfl (.refl _) rfl .nil (by first | rfl | omega) .nil (ty_TRights.fl v5) (ty_TRights.fl (default : TRights)) rfl) rfl rfl) trivial ?_
    refine S.sil 7 rfl rfl (fun _ hF => .assign (lk 0 rfl rfl)) ?_
    refine S.nil ?_
    refine thenQ_n ?_
    refine AWp.ret ?_
    refine thenQ_r ?_
    refine endF_wk (Wk.freeze 1 rfl rfl (.same (lk 0 rfl rfl) (.same (lk 0 rfl rfl) (.cons (lk 8 rfl rfl) rfl (.ptr .nil (by first | rfl | omega)) .nil))) (.refl _)) ?_
    obtain rfl := h.ret
    exact endFN rfl (Wk.selS [] .nil rfl (SelE.leaf (lk 2 rfl rfl) rfl (.refl _) (fun m => (lt_cptr (ty_TRights.lt _ _))) (SelE.leaf (lk 0 rfl rfl) rfl (.refl _) (fun m => ((TyOk.int .i64).lt _ _)) .nil)) .nil) (.cons (.cellC sz36 ag36 (lk 0 rfl rfl) (ty_TRights.fl _) rfl) (.cons (.tmp (lk 1 rfl rfl) rfl) .nil)) rfl rfl rfl
  · skip
    refine AWp.skip ?_
    refine thenQ_n ?_
    refine AWp.seq ?_
    refine W.reg [0, 1, 2] rfl ?_
    refine S.sil 22 rfl rfl (fun _ hF => .loadC sz33 ag33 (lk 3 rfl rfl) (ty_A16_i64.fl r4.1) rfl) ?_
    refine S.sil 23 rfl rfl (fun _ hF => .fieldAddr lay36 rfl rfl (lk 7 rfl rfl)) ?_
    obtain ⟨v6, ev6, h⟩ := h.nam
    refine S.effN rfl rfl (.nf (H2 := [.cells (E_TRights v6), .cells (E_TRights (default : TRights)), .dead]) (.storeP sz33 (lk 0 rfl rfl) (lk 1 rfl rfl) rfl (.refl _) rfl (.st rfl flL_nil .nil) (by first | rfl | omega) (.st rfl .nil rfl) (ty_A16_i64.fl r4.1) (ty_A16_i64.fl a1.Given) (congrArg (fun z => ([AObj.cells (E_TRights z), .cells (E_TRights (default : TRights)), .dead] : List AObj)) ev6.symm)) rfl rfl) trivial ?_
    refine S.nil ?_
    refine thenQ_n ?_
    refine AWp.seq ?_
    refine W.reg [0, 1, 2] rfl ?_
    refine S.qui 24 rfl rfl (fun _ => .loadP sz36 ag36 (lk 8 rfl rfl) rfl .nil (by first | rfl | omega) (ty_TRights.fl v6) rfl) ?_
    refine S.effN rfl rfl (.nf (H2 := [.cells (E_TRights v6), .cells (E_TRights v6), .dead]) (.storeP sz36 (lk 8 rfl rfl) (lk 0 rfl rfl) rfl (.refl _) rfl .nil (by first | rfl | omega) .nil (ty_TRights.fl v6) (ty_TRights.fl (default : TRights)) rfl) rfl rfl) trivial ?_
    refine S.sil 7 rfl rfl (fun _ hF => .assign cI) ?_
    refine S.nil ?_
    refine thenQ_n ?_
    refine AWp.ret ?_
    refine endF_wk (Wk.freeze 1 rfl rfl (.same (lk 0 rfl rfl) (.same (lk 0 rfl rfl) (.cons (lk 9 rfl rfl) rfl (.ptr .nil (by first | rfl | omega)) .nil))) (.refl _)) ?_
    obtain rfl := h.ret
    exact endFN rfl (Wk.selS [] .nil rfl (SelE.leaf (lk 2 rfl rfl) rfl (.refl _) (fun m => (lt_cptr (ty_TRights.lt _ _))) (SelE.leaf (lk 0 rfl rfl) rfl (.refl _) (fun m => ((TyOk.int .i64).lt _ _)) .nil)) .nil) (.cons (.cellC sz36 ag36 (lk 0 rfl rfl) (ty_TRights.fl _) rfl) (.cons (.tmp (lk 1 rfl rfl) rfl) .nil)) rfl rfl rfl
theorem C_usufructref04_Dec {a1 : TCounter} {a2 : Int} {a3 : Int} {r : TCounter × Int} (h : usufructref04_Dec a1 a2 a3 = some r) : PureC Pg 81 [E_TCounter a1, (V.int .i64) a2, (V.int .i64) a3] (.tup [E_TCounter r.1, (V.int .i64) r.2]) := by
  refine PureC.ofF (CallSpec.of_bodyF 40 0 fn81 rfl rfl rfl (Nat.le_of_ble_eq_true rfl) ?_) (ltL_c (ty_TCounter.lt _ _) (ltL_c ((TyOk.int .i64).lt _ _) (ltL_c ((TyOk.int .i64).lt _ _) ltL_nil))) (lt_tup (ltL_c (ty_TCounter.lt _ _) (ltL_c ((TyOk.int .i64).lt _ _) ltL_nil)))
  replace h := Ok.of h
  unfold usufructref04_Dec at h
  refine AWp.seq ?_
  refine W.reg [0, 1, 2] rfl ?_
  refine S.eff 3 rfl rfl (.nf (v2 := .ptr 0 [] 0) (H2 := [.cells (E_TCounter a1)]) (.box (lk 0 rfl rfl) rfl) rfl rfl) trivial ?_
  refine S.eff 6 rfl rfl (.nf (v2 := .ptr 1 [] 0) (H2 := [.cells (E_TCounter a1), .cells (E_TCounter (default : TCounter))]) (.alloc zv38) rfl rfl) trivial ?_
  refine S.sil 7 rfl rfl (fun _ hF => .assign cI) ?_
  refine S.nil ?_
  refine thenQ_n ?_
  refine AWp.seq ?_
  refine W.reg [0, 1, 2, 3, 4, 5, 6, 7, 8, 9, 10] rfl ?_
  refine S.sil 12 rfl rfl (fun _ hF => .fieldAddr lay38 rfl rfl (lk 2 rfl rfl)) ?_
  refine S.qui 13 rfl rfl (fun _ => .loadP sz36 ag36 (lk 0 rfl rfl) rfl (.st rfl (flL_c (show flen _ = 1 from rfl) (flL_c (show flen _ = 1 from rfl) (flL_c (show flen _ = 1 from rfl) flL_nil))) .nil) (by first | rfl | omega) (ty_TRights.fl a1.Down) rfl) ?_
  refine S.sil 14 rfl rfl (fun _ hF => .move (lk 6 rfl rfl)) ?_
  refine S.sil 15 rfl rfl (fun _ hF => .move (lk 8 rfl rfl)) ?_
  obtain ⟨r4, m4, h⟩ := h.bnd
  refine S.sil 16 rfl rfl (fun _ hF => .callQ ent127 cF (.c (lk 2 rfl rfl) (V.sub.refl _) (.c (lk 1 rfl rfl) (V.sub.refl _) (.c (lk 0 rfl rfl) (V.sub.refl _) .nil))) (C_usufructref03_Use m4)) ?_
  refine S.sil 11 rfl rfl (fun _ hF => .move (lk 0 rfl rfl)) ?_
  refine S.sil 17 rfl rfl (fun _ hF => .extract (lk 0 rfl rfl) rfl) ?_
  refine S.sil 18 rfl rfl (fun _ hF => .extract (lk 1 rfl rfl) rfl) ?_
  refine S.eff 8 rfl rfl (.nf (v2 := .ptr 2 [] 0) (H2 := [.cells (E_TCounter a1), .cells (E_TCounter (default : TCounter)), .cells (E_TRights (default : TRights))]) (.alloc zv36) rfl rfl) trivial ?_
  refine S.effN rfl rfl (.nf (H2 := [.cells (E_TCounter a1), .cells (E_TCounter (default : TCounter)), .cells (E_TRights r4.1)]) (.storeP sz36 (lk 0 rfl rfl) (lk 2 rfl rfl) rfl (.refl _) rfl .nil (by first | rfl | omega) .nil (ty_TRights.fl r4.1) (ty_TRights.fl (default : TRights)) rfl) rfl rfl) trivial ?_
  refine S.sil 9 rfl rfl (fun _ hF => .assign (lk 1 rfl rfl)) ?_
  refine S.nil ?_
  refine thenQ_n ?_
  refine AWp.wk (Wk.freeze 2 rfl rfl (.same (lk 0 rfl rfl) (.cons (lk 1 rfl rfl) rfl (.ptr .nil (by first | rfl | omega)) (.same (lk 10 rfl rfl) (.same (lk 11 rfl rfl) (.same (lk 12 rfl rfl) (.same (lk 14 rfl rfl) (.same (lk 15 rfl rfl) .nil))))))) (.refl _)) ?_
  refine AWp.seq ?_
  refine AWp.seq ?_
  refine W.reg [0, 1] rfl ?_
  refine S.sil 19 rfl rfl (fun _ hF => .move (lk 0 rfl rfl)) ?_
  refine S.sil 20 rfl rfl (fun _ hF => .neq (lk 0 rfl rfl) cI) ?_
  refine S.nil ?_
  refine thenQ_n ?_
  refine AWp.condM (lk 0 rfl rfl) h (fun c1 h => ?_) (fun c1 h => ?_)
  · skip
    refine AWp.seq ?_
    refine W.reg [0, 1, 2, 3] rfl ?_
    obtain ⟨v5, ev5, h⟩ := h.nam
    refine S.sil 21 rfl rfl (fun _ hF => .nv (.nv (v2 := E_TCounter (⟨0, 0, 0, (default : TRights), (default : TRights)⟩ : TCounter)) (.buildStW lay38 zv38 rfl .nil) rfl) (congrArg E_TCounter ev5.symm)) ?_
    refine S.sil 22 rfl rfl (fun _ hF => .move (lk 3 rfl rfl)) ?_
    refine S.effN rfl rfl (.nf (H2 := [.cells (E_TCounter a1), .cells (E_TCounter v5), .dead]) (.storeP sz38 (lk 7 rfl rfl) (lk 1 rfl rfl) rfl (.refl _) rfl .nil (by first | rfl | omega) .nil (ty_TCounter.fl v5) (ty_TCounter.fl (default : TCounter)) rfl) rfl rfl) trivial ?_
    refine S.sil 7 rfl rfl (fun _ hF => .assign (lk 0 rfl rfl)) ?_
    refine S.nil ?_
    refine thenQ_n ?_
    refine AWp.ret ?_
    refine thenQ_r ?_
    refine endF_wk (Wk.freeze 1 rfl rfl (.same (lk 0 rfl rfl) (.same (lk 0 rfl rfl) (.cons (lk 8 rfl rfl) rfl (.ptr .nil (by first | rfl | omega)) .nil))) (.refl _)) ?_
    obtain rfl := h.ret
    exact endFN rfl (Wk.selS [] .nil rfl (SelE.leaf (lk 2 rfl rfl) rfl (.refl _) (fun m => (lt_cptr (ty_TCounter.lt _ _))) (SelE.leaf (lk 0 rfl rfl) rfl (.refl _) (fun m => ((TyOk.int .i64).lt _ _)) .nil)) .nil) (.cons (.cellC sz38 ag38 (lk 0 rfl rfl) (ty_TCounter.fl _) rfl) (.cons (.tmp (lk 1 rfl rfl) rfl) .nil)) rfl rfl rfl
  · skip
    refine AWp.skip ?_
    refine thenQ_n ?_
    refine AWp.seq ?_
    refine W.reg [0, 1, 2, 3, 4, 5, 6, 7, 8, 9, 10] rfl ?_
    refine S.sil 24 rfl rfl (fun _ hF => .fieldAddr lay38 rfl rfl (lk 6 rfl rfl)) ?_
    refine S.qui 25 rfl rfl (fun _ => .loadP sz36 ag36 (lk 0 rfl rfl) rfl (.st rfl (flL_c (show flen _ = 1 from rfl) (flL_c (show flen _ = 1 from rfl) (flL_c (show flen _ = 1 from rfl) (flL_c (ty_TRights.fl a1.Down) flL_nil)))) .nil) (by first | rfl | omega) (ty_TRights.fl a1.Up) rfl) ?_
    refine S.sil 26 rfl rfl (fun _ hF => .move (lk 9 rfl rfl)) ?_
    refine S.sil 27 rfl rfl (fun _ hF => .move (lk 11 rfl rfl)) ?_
    obtain ⟨r6, m6, h⟩ := h.bnd
    refine S.sil 28 rfl rfl (fun _ hF => .callQ ent128 cF (.c (lk 2 rfl rfl) (V.sub.refl _) (.c (lk 1 rfl rfl) (V.sub.refl _) (.c (lk 0 rfl rfl) (V.sub.refl _) .nil))) (C_usufructref03_Give m6)) ?_
    refine S.sil 23 rfl rfl (fun _ hF => .move (lk 0 rfl rfl)) ?_
    refine S.sil 29 rfl rfl (fun _ hF => .extract (lk 0 rfl rfl) rfl) ?_
    refine S.sil 30 rfl rfl (fun _ hF => .extract (lk 1 rfl rfl) rfl) ?_
    refine S.eff 10 rfl rfl (.nf (v2 := .ptr 3 [] 0) (H2 := [.cells (E_TCounter a1), .cells (E_TCounter (default : TCounter)), .dead, .cells (E_TRights (default : TRights))]) (.alloc zv36) rfl rfl) trivial ?_
    refine S.effN rfl rfl (.nf (H2 := [.cells (E_TCounter a1), .cells (E_TCounter (default : TCounter)), .dead, .cells (E_TRights r6.1)]) (.storeP sz36 (lk 0 rfl rfl) (lk 2 rfl rfl) rfl (.refl _) rfl .nil (by first | rfl | omega) .nil (ty_TRights.fl r6.1) (ty_TRights.fl (default : TRights)) rfl) rfl rfl) trivial ?_
    refine S.sil 9 rfl rfl (fun _ hF => .assign (lk 1 rfl rfl)) ?_
    refine S.nil ?_
    refine thenQ_n ?_
    refine AWp.wk (Wk.freeze 3 rfl rfl (.same (lk 0 rfl rfl) (.cons (lk 1 rfl rfl) rfl (.ptr .nil (by first | rfl | omega)) (.same (lk 13 rfl rfl) (.same (lk 14 rfl rfl) (.same (lk 15 rfl rfl) (.same (lk 16 rfl rfl) .nil)))))) (.refl _)) ?_
    refine AWp.seq ?_
    refine AWp.seq ?_
    refine W.reg [0, 1] rfl ?_
    refine S.sil 31 rfl rfl (fun _ hF => .move (lk 0 rfl rfl)) ?_
    refine S.sil 32 rfl rfl (fun _ hF => .neq (lk 0 rfl rfl) cI) ?_
    refine S.nil ?_
    refine thenQ_n ?_
    refine AWp.condM (lk 0 rfl rfl) h (fun c2 h => ?_) (fun c2 h => ?_)
    · skip
      refine AWp.seq ?_
      refine W.reg [0, 1, 2, 3] rfl ?_
      obtain ⟨v7, ev7, h⟩ := h.nam
      refine S.sil 33 rfl rfl (fun _ hF => .nv (.nv (v2 := E_TCounter (⟨0, 0, 0, (default : TRights), (default : TRights)⟩ : TCounter)) (.buildStW lay38 zv38 rfl .nil) rfl) (congrArg E_TCounter ev7.symm)) ?_
      refine S.sil 34 rfl rfl (fun _ hF => .move (lk 3 rfl rfl)) ?_
      refine S.effN rfl rfl (.nf (H2 := [.cells (E_TCounter a1), .cells (E_TCounter v7), .dead, .dead]) (.storeP sz38 (lk 8 rfl rfl) (lk 1 rfl rfl) rfl (.refl _) rfl .nil (by first | rfl | omega) .nil (ty_TCounter.fl v7) (ty_TCounter.fl (default : TCounter)) rfl) rfl rfl) trivial ?_
      refine S.sil 7 rfl rfl (fun _ hF => .assign (lk 0 rfl rfl)) ?_
      refine S.nil ?_
      refine thenQ_n ?_
      refine AWp.ret ?_
      refine thenQ_r ?_
      refine endF_wk (Wk.freeze 1 rfl rfl (.same (lk 0 rfl rfl) (.same (lk 0 rfl rfl) (.cons (lk 9 rfl rfl) rfl (.ptr .nil (by first | rfl | omega)) .nil))) (.refl _)) ?_
      obtain rfl := h.ret
      exact endFN rfl (Wk.selS [] .nil rfl (SelE.leaf (lk 2 rfl rfl) rfl (.refl _) (fun m => (lt_cptr (ty_TCounter.lt _ _))) (SelE.leaf (lk 0 rfl rfl) rfl (.refl _) (fun m => ((TyOk.int .i64).lt _ _)) .nil)) .nil) (.cons (.cellC sz38 ag38 (lk 0 rfl rfl) (ty_TCounter.fl _) rfl) (.cons (.tmp (lk 1 rfl rfl) rfl) .nil)) rfl rfl rfl
    · skip
      refine AWp.skip ?_
      refine thenQ_n ?_
      refine AWp.seq ?_
      refine W.reg [0, 1, 2] rfl ?_
      refine S.sil 35 rfl rfl (fun _ hF => .loadC sz36 ag36 (lk 4 rfl rfl) (ty_TRights.fl r4.1) rfl) ?_
      refine S.sil 36 rfl rfl (fun _ hF => .fieldAddr lay38 rfl rfl (lk 8 rfl rfl)) ?_
      obtain ⟨v8, ev8, h⟩ := h.nam
      refine S.effN rfl rfl (.nf (H2 := [.cells (E_TCounter v8), .cells (E_TCounter (default : TCounter)), .dead, .dead]) (.storeP sz36 (lk 0 rfl rfl) (lk 1 rfl rfl) rfl (.refl _) rfl (.st rfl (flL_c (show flen _ = 1 from rfl) (flL_c (show flen _ = 1 from rfl) (flL_c (show flen _ = 1 from rfl) flL_nil))) .nil) (by first | rfl | omega) (.st rfl .nil rfl) (ty_TRights.fl r4.1) (ty_TRights.fl a1.Down) (congrArg (fun z => ([AObj.cells (E_TCounter z), .cells (E_TCounter (default : TCounter)), .dead, .dead] : List AObj)) ev8.symm)) rfl rfl) trivial ?_
      refine S.nil ?_
      refine thenQ_n ?_
      refine AWp.seq ?_
      refine W.reg [0, 1, 2] rfl ?_
      refine S.sil 37 rfl rfl (fun _ hF => .loadC sz36 ag36 (lk 5 rfl rfl) (ty_TRights.fl r6.1) rfl) ?_
      refine S.sil 38 rfl rfl (fun _ hF => .fieldAddr lay38 rfl rfl (lk 10 rfl rfl)) ?_
      obtain ⟨v9, ev9, h⟩ := h.nam
      refine S.effN rfl rfl (.nf (H2 := [.cells (E_TCounter v9), .cells (E_TCounter (default : TCounter)), .dead, .dead]) (.storeP sz36 (lk 0 rfl rfl) (lk 1 rfl rfl) rfl (.refl _) rfl (.st rfl (flL_c (show flen _ = 1 from rfl) (flL_c (show flen _ = 1 from rfl) (flL_c (show flen _ = 1 from rfl) (flL_c (ty_TRights.fl v8.Down) flL_nil)))) .nil) (by first | rfl | omega) (.st rfl .nil rfl) (ty_TRights.fl r6.1) (ty_TRights.fl v8.Up) (congrArg (fun z => ([AObj.cells (E_TCounter z), .cells (E_TCounter (default : TCounter)), .dead, .dead] : List AObj)) ev9.symm)) rfl rfl) trivial ?_
      refine S.nil ?_
      refine thenQ_n ?_
      refine AWp.seq ?_
      refine W.reg [0, 1, 2] rfl ?_
      refine S.qui 39 rfl rfl (fun _ => .loadP sz38 ag38 (lk 11 rfl rfl) rfl .nil (by first | rfl | omega) (ty_TCounter.fl v9) rfl) ?_
      refine S.effN rfl rfl (.nf (H2 := [.cells (E_TCounter v9), .cells (E_TCounter v9), .dead, .dead]) (.storeP sz38 (lk 11 rfl rfl) (lk 0 rfl rfl) rfl (.refl _) rfl .nil (by first | rfl | omega) .nil (ty_TCounter.fl v9) (ty_TCounter.fl (default : TCounter)) rfl) rfl rfl) trivial ?_
      refine S.sil 7 rfl rfl (fun _ hF => .assign cI) ?_
      refine S.nil ?_
      refine thenQ_n ?_
      refine AWp.prune (.eq (lk 0 rfl rfl) rfl (.eq (lk 12 rfl rfl) rfl .nil)) ?_
      refine AWp.ret ?_
      refine endF_wk (Wk.freeze 1 rfl rfl (.same (lk 0 rfl rfl) (.cons (lk 1 rfl rfl) rfl (.ptr .nil (by first | rfl | omega)) .nil)) (.refl _)) ?_
      obtain rfl := h.ret
      exact endFN rfl (Wk.selS [] .nil rfl (SelE.leaf (lk 1 rfl rfl) rfl (.refl _) (fun m => (lt_cptr (ty_TCounter.lt _ _))) (SelE.leaf (lk 0 rfl rfl) rfl (.refl _) (fun m => ((TyOk.int .i64).lt _ _)) .nil)) .nil) (.cons (.cellC sz38 ag38 (lk 0 rfl rfl) (ty_TCounter.fl _) rfl) (.cons (.tmp (lk 1 rfl rfl) rfl) .nil)) rfl rfl rfl
theorem C_usufructref07_with {a1 : TField} {a2 : TCounter} {a3 : Int} {r : TField × Int} (h : usufructref07_with a1 a2 a3 = some r) : PureC Pg 82 [E_TField a1, E_TCounter a2, (V.int .i64) a3] (.tup [E_TField r.1, (V.int .i64) r.2]) := by
  refine PureC.ofF (CallSpec.of_bodyF 15 0 fn82 rfl rfl rfl (Nat.le_of_ble_eq_true rfl) ?_) (ltL_c (ty_TField.lt _ _) (ltL_c (ty_TCounter.lt _ _) (ltL_c ((TyOk.int .i64).lt _ _) ltL_nil))) (lt_tup (ltL_c (ty_TField.lt _ _) (ltL_c ((TyOk.int .i64).lt _ _) ltL_nil)))
  replace h := Ok.of h
  unfold usufructref07_with at h
  refine AWp.seq ?_
  refine W.reg [0, 1, 2, 3] rfl ?_
  refine S.eff 3 rfl rfl (.nf (v2 := .ptr 0 [] 0) (H2 := [.cells (E_TField a1)]) (.box (lk 0 rfl rfl) rfl) rfl rfl) trivial ?_
  refine S.eff 4 rfl rfl (.nf (v2 := .ptr 1 [] 0) (H2 := [.cells (E_TField a1), .cells (E_TCounter a2)]) (.box (lk 2 rfl rfl) rfl) rfl rfl) trivial ?_
  refine S.eff 6 rfl rfl (.nf (v2 := .ptr 2 [] 0) (H2 := [.cells (E_TField a1), .cells (E_TCounter a2), .cells (.st [V.str (default : ByteArray), (V.int .i64) 0, (V.int .i64) 0, E_TCounter (default : TCounter), E_TLock (default : TLock), .nils])]) (.alloc zv43) rfl rfl) trivial ?_
  refine S.sil 7 rfl rfl (fun _ hF => .assign cI) ?_
  refine S.nil ?_
  refine thenQ_n ?_
  refine AWp.wk (Wk.freeze 1 rfl rfl (.same (lk 0 rfl rfl) (.same (lk 1 rfl rfl) (.cons (lk 2 rfl rfl) rfl (.ptr .nil (by first | rfl | omega)) (.same (lk 3 rfl rfl) (.same (lk 6 rfl rfl) .nil))))) (.refl _)) ?_
  refine AWp.seq ?_
  refine AWp.seq ?_
  refine W.reg [0, 1] rfl ?_
  refine S.sil 8 rfl rfl (fun _ hF => .move (lk 4 rfl rfl)) ?_
  refine S.sil 9 rfl rfl (fun _ hF => .neq (lk 0 rfl rfl) cI) ?_
  refine S.nil ?_
  refine thenQ_n ?_
  refine AWp.condM (lk 0 rfl rfl) h (fun c1 h => ?_) (fun c1 h => ?_)
  · skip
    refine AWp.seq ?_
    refine W.reg [0, 1, 2, 3] rfl ?_
    obtain ⟨v4, ev4, h⟩ := h.nam
    refine S.sil 10 rfl rfl (fun _ hF => .nv (.vs (v := .st [V.str (default : ByteArray), (V.int .i64) 0, (V.int .i64) 0, E_TCounter (default : TCounter), E_TLock (default : TLock), .nils]) (v2 := E_TField (⟨(default : ByteArray), 0, 0, (default : TCounter), (default : TLock), ([] : List THold)⟩ : TField)) (.buildStW lay43 zv43 rfl .nil) rfl (.st (.cons (.refl _) (.cons (.refl _) (.cons (.refl _) (.cons (.refl _) (.cons (.refl _) (.cons (.nils_no _) .nil)))))))) (congrArg E_TField ev4.symm)) ?_
    refine S.sil 11 rfl rfl (fun _ hF => .move (lk 7 rfl rfl)) ?_
    refine S.effN rfl rfl (.nf (H2 := [.cells (E_TField a1), .dead, .cells (E_TField v4)]) (.storeP sz43 (lk 5 rfl rfl) (lk 1 rfl rfl) rfl (.refl _) rfl .nil (by first | rfl | omega) .nil (ty_TField.fl v4) (fl_st (flL_c (show flen _ = 1 from rfl) (flL_c (show flen _ = 1 from rfl) (flL_c (show flen _ = 1 from rfl) (flL_c (ty_TCounter.fl (default : TCounter)) (flL_c (ty_TLock.fl (default : TLock)) (flL_c (show flen _ = 1 from rfl) flL_nil))))))) rfl) rfl rfl) trivial ?_
    refine S.sil 7 rfl rfl (fun _ hF => .assign (lk 0 rfl rfl)) ?_
    refine S.nil ?_
    refine thenQ_n ?_
    refine AWp.ret ?_
    refine thenQ_r ?_
    refine endF_wk (Wk.freeze 2 rfl rfl (.same (lk 0 rfl rfl) (.same (lk 0 rfl rfl) (.cons (lk 6 rfl rfl) rfl (.ptr .nil (by first | rfl | omega)) .nil))) (.refl _)) ?_
    obtain rfl := h.ret
    exact endFN rfl (Wk.selS [] .nil rfl (SelE.leaf (lk 2 rfl rfl) rfl (.refl _) (fun m => (lt_cptr (ty_TField.lt _ _))) (SelE.leaf (lk 0 rfl rfl) rfl (.refl _) (fun m => ((TyOk.int .i64).lt _ _)) .nil)) .nil) (.cons (.cellC sz43 ag43 (lk 0 rfl rfl) (ty_TField.fl _) rfl) (.cons (.tmp (lk 1 rfl rfl) rfl) .nil)) rfl rfl rfl
  · skip
    refine AWp.skip ?_
    refine thenQ_n ?_
    refine AWp.seq ?_
    refine W.reg [0, 1, 2] rfl ?_
    refine S.sil 12 rfl rfl (fun _ hF => .loadC sz38 ag38 (lk 4 rfl rfl) (ty_TCounter.fl a2) rfl) ?_
    refine S.sil 13 rfl rfl (fun _ hF => .fieldAddr lay43 rfl rfl (lk 6 rfl rfl)) ?_
    obtain ⟨v5, ev5, h⟩ := h.nam
    refine S.effN rfl rfl (.nf (H2 := [.cells (E_TField v5), .dead, .cells (.st [V.str (default : ByteArray), (V.int .i64) 0, (V.int .i64) 0, E_TCounter (default : TCounter), E_TLock (default : TLock), .nils])]) (.storeP sz38 (lk 0 rfl rfl) (lk 1 rfl rfl) rfl (.refl _) rfl (.st rfl (flL_c (show flen _ = 1 from rfl) (flL_c (show flen _ = 1 from rfl) (flL_c (show flen _ = 1 from rfl) flL_nil))) .nil) (by first | rfl | omega) (.st rfl .nil rfl) (ty_TCounter.fl a2) (ty_TCounter.fl a1.Counter) (congrArg (fun z => ([AObj.cells (E_TField z), .dead, .cells (.st [V.str (default : ByteArray), (V.int .i64) 0, (V.int .i64) 0, E_TCounter (default : TCounter), E_TLock (default : TLock), .nils])] : List AObj)) ev5.symm)) rfl rfl) trivial ?_
    refine S.nil ?_
    refine thenQ_n ?_
    refine AWp.seq ?_
    refine W.reg [0, 1, 2] rfl ?_
    refine S.qui 14 rfl rfl (fun _ => .loadP sz43 ag43 (lk 7 rfl rfl) rfl .nil (by first | rfl | omega) (ty_TField.fl v5) rfl) ?_
    refine S.effN rfl rfl (.nf (H2 := [.cells (E_TField v5), .dead, .cells (E_TField v5)]) (.storeP sz43 (lk 6 rfl rfl) (lk 0 rfl rfl) rfl (.refl _) rfl .nil (by first | rfl | omega) .nil (ty_TField.fl v5) (fl_st (flL_c (show flen _ = 1 from rfl) (flL_c (show flen _ = 1 from rfl) (flL_c (show flen _ = 1 from rfl) (flL_c (ty_TCounter.fl (default : TCounter)) (flL_c (ty_TLock.fl (default : TLock)) (flL_c (show flen _ = 1 from rfl) flL_nil))))))) rfl) rfl rfl) trivial ?_
    refine S.sil 7 rfl rfl (fun _ hF => .assign cI) ?_
    refine S.nil ?_
    refine thenQ_n ?_
    refine AWp.ret ?_
    refine endF_wk (Wk.freeze 2 rfl rfl (.same (lk 0 rfl rfl) (.same (lk 0 rfl rfl) (.cons (lk 7 rfl rfl) rfl (.ptr .nil (by first | rfl | omega)) .nil))) (.refl _)) ?_
    obtain rfl := h.ret
    exact endFN rfl (Wk.selS [] .nil rfl (SelE.leaf (lk 2 rfl rfl) rfl (.refl _) (fun m => (lt_cptr (ty_TField.lt _ _))) (SelE.leaf (lk 0 rfl rfl) rfl (.refl _) (fun m => ((TyOk.int .i64).lt _ _)) .nil)) .nil) (.cons (.cellC sz43 ag43 (lk 0 rfl rfl) (ty_TField.fl _) rfl) (.cons (.tmp (lk 1 rfl rfl) rfl) .nil)) rfl rfl rfl
end Go.Av
