/- Each function tells what its mirror tells. -/
import Derived.Test.YtakadpmjdhcckabGreatAvPlanOnceG3
import Derived.Test.YtakadpmjdhcckabGreatProg
import Derived.KernelRfl
namespace Go.Av
set_option linter.unusedSectionVars false
open Go.Proofs
set_option linter.unusedVariables false
set_option linter.unusedSimpArgs false
set_option maxHeartbeats 4000000
set_option maxRecDepth 10000
theorem C_usufructref13_before {a1 : ByteArray} {a2 : ByteArray} {r : Bool} (h : usufructref13_before a1 a2 = some r) : PureC Pg 60 [V.str a1, V.str a2] (V.bool r) := by
  refine PureC.ofF (CallSpec.of_bodyF 37 0 fn60 rfl rfl rfl (Nat.le_of_ble_eq_true rfl) ?_) (ltL_c (TyOk.str.lt _ _) (ltL_c (TyOk.str.lt _ _) ltL_nil)) (TyOk.bool.lt _ _)
  replace h := Ok.of h
  unfold usufructref13_before at h
  refine AWp.seq ?_
  refine W.reg [0] rfl ?_
  refine S.sil 4 rfl rfl (fun _ hF => .assign cB) ?_
  refine S.nil ?_
  refine thenQ_n ?_
  refine AWp.seq ?_
  refine AWp.seq ?_
  refine W.reg [0] rfl ?_
  refine S.sil 5 rfl rfl (fun _ hF => .assign cI) ?_
  refine S.nil ?_
  refine thenQ_n ?_
  refine AWp.cutL (fun x5 => ⟨[(4, V.bool false), (0, V.str a1), (1, V.str a2)], []⟩) nc_then h (fun q3 hq3 h => ?_) (fun x5 h => ?_)
  · refine AWp.block ?_
    refine AWp.loopT (fun s4 => ⟨[(5, (V.int .i64) s4), (4, V.bool false), (0, V.str a1), (1, V.str a2)], []⟩) hq3 (Wk.selS [] (by decide) rfl (SelE.leaf (lk 0 rfl rfl) rfl (.refl _) (fun m => ((TyOk.int .i64).lt _ _)) (SelE.leaf (lk 1 rfl rfl) rfl (.refl _) (fun m => (TyOk.bool.lt _ _)) (SelE.leaf (lk 2 rfl rfl) rfl (.refl _) (fun m => (TyOk.str.lt _ _)) (SelE.leaf (lk 3 rfl rfl) rfl (.refl _) (fun m => (TyOk.str.lt _ _)) .nil)))) .nil) (fun _ s4 h3 => ?_)
    rw [usufructref13_before_L1] at h3
    refine AWp.seq ?_
    refine AWp.seq ?_
    refine W.reg [0, 1, 2, 3, 4, 5, 6, 7, 8, 9] rfl ?_
    refine S.sil 6 rfl rfl (fun _ hF => .move (lk 0 rfl rfl)) ?_
    refine S.sil 7 rfl rfl (fun _ hF => .move (lk 3 rfl rfl)) ?_
    refine S.sil 8 rfl rfl (fun _ hF => .lenS und9 (lk 0 rfl rfl)) ?_
    refine S.sil 9 rfl rfl (fun _ hF => .lss (lk 2 rfl rfl) (lk 0 rfl rfl)) ?_
    refine S.sil 10 rfl rfl (fun _ hF => .move (lk 0 rfl rfl)) ?_
    refine S.gsil 11 4 10 true rfl rfl rfl (lk 0 rfl rfl) (fun hB _ hF => .move (lk 5 rfl rfl)) ?_
    refine S.gsil 12 4 10 true rfl rfl rfl (lk 1 rfl rfl) (fun hB _ hF => .move (lk 9 rfl rfl)) ?_
    refine S.gsil 13 4 10 true rfl rfl rfl (lk 2 rfl rfl) (fun hB _ hF => .lenS und9 (ifT hB (lk 0 rfl rfl))) ?_
    refine S.gsil 14 4 10 true rfl rfl rfl (lk 3 rfl rfl) (fun hB _ hF => .lss (ifT hB (lk 2 rfl rfl)) (ifT hB (lk 0 rfl rfl))) ?_
    refine S.sil 15 rfl rfl (fun _ hF => .pickAnd (lk 4 rfl rfl) (fun h => ifT h (lk 0 rfl rfl)) cB) ?_
    refine S.nil ?_
    refine thenQ_n ?_
    refine AWp.condM (lk 0 rfl rfl) h3 (fun c1 h3 => ?_) (fun c1 h3 => ?_)
    · skip
      refine AWp.skip ?_
      refine thenQ_n ?_
      refine AWp.seq ?_
      refine AWp.block ?_
      refine AWp.seq ?_
      refine W.regD [0, 1, 2, 3, 4, 5, 6] mixed ?_
      refine S.sil 18 rfl rfl (fun _ hF => .move (lk 12 rfl rfl)) ?_
      refine S.sil 19 rfl rfl (fun _ hF => .move (lk 11 rfl rfl)) ?_
      obtain ⟨n6, m6, h3⟩ := h3.bnd
      refine S.sil 20 rfl rfl (fun _ hF => .ixStr und9 (lk 1 rfl rfl) (lk 0 rfl rfl) m6) ?_
      refine S.sil 21 rfl rfl (fun _ hF => .move (lk 16 rfl rfl)) ?_
      refine S.sil 22 rfl rfl (fun _ hF => .move (lk 14 rfl rfl)) ?_
      obtain ⟨n7, m7, h3⟩ := h3.bnd
      refine S.sil 23 rfl rfl (fun _ hF => .ixStr und9 (lk 1 rfl rfl) (lk 0 rfl rfl) m7) ?_
      refine S.sil 24 rfl rfl (fun _ hF => .neq (lk 3 rfl rfl) (lk 0 rfl rfl)) ?_
      refine S.nilD (by kernel_rfl) ?_
      refine thenQ_n ?_
      refine AWp.condM (lk 0 rfl rfl) h3 (fun c2 h3 => ?_) (fun c2 h3 => ?_)
      · skip
        refine AWp.seq ?_
        refine W.regD [0, 1, 2, 3, 4, 5, 6, 7] mixed ?_
        refine S.sil 25 rfl rfl (fun _ hF => .move (lk 19 rfl rfl)) ?_
        refine S.sil 26 rfl rfl (fun _ hF => .move (lk 18 rfl rfl)) ?_
        obtain ⟨n8, m8, h3⟩ := h3.bnd
        refine S.sil 27 rfl rfl (fun _ hF => .ixStr und9 (lk 1 rfl rfl) (lk 0 rfl rfl) m8) ?_
        refine S.sil 28 rfl rfl (fun _ hF => .move (lk 23 rfl rfl)) ?_
        refine S.sil 29 rfl rfl (fun _ hF => .move (lk 21 rfl rfl)) ?_
        obtain ⟨n9, m9, h3⟩ := h3.bnd
        refine S.sil 30 rfl rfl (fun _ hF => .ixStr und9 (lk 1 rfl rfl) (lk 0 rfl rfl) m9) ?_
        refine S.sil 31 rfl rfl (fun _ hF => .lss (lk 3 rfl rfl) (lk 0 rfl rfl)) ?_
        refine S.sil 4 rfl rfl (fun _ hF => .assign (lk 0 rfl rfl)) ?_
        refine S.nilD (by kernel_rfl) ?_
        refine thenQ_n ?_
        refine AWp.ret ?_
        refine blockQ_r ?_
        refine thenQ_r ?_
        refine thenQ_r ?_
        refine blockQ_r ?_
        refine thenQ_r ?_
        refine thenQ_r ?_
        have h := Ok.inrq h h3.ret
        obtain rfl := h.ret
        exact endF1 rfl (Wk.selS [] .nil rfl (SelE.leaf (lk 0 rfl rfl) rfl (.refl _) (fun m => (TyOk.bool.lt _ _)) .nil) .nil) (.tmp (lk 0 rfl rfl) rfl) rfl rfl
      · skip
        refine AWp.skip ?_
        refine blockQ_n ?_
        refine thenQ_n ?_
        refine W.reg [0, 1, 2] rfl ?_
        refine S.sil 16 rfl rfl (fun _ hF => .move (lk 17 rfl rfl)) ?_
        refine S.sil 17 rfl rfl (fun _ hF => .add (lk 0 rfl rfl) cI) ?_
        refine S.sil 5 rfl rfl (fun _ hF => .assign (lk 0 rfl rfl)) ?_
        refine S.nil ?_
        refine thenQ_n ?_
        exact ⟨_, h3.ret, (Wk.selS [] (by decide) rfl (SelE.leaf (lk 0 rfl rfl) rfl (.refl _) (fun m => ((TyOk.int .i64).lt _ _)) (SelE.leaf (lk 21 rfl rfl) rfl (.refl _) (fun m => (TyOk.bool.lt _ _)) (SelE.leaf (lk 22 rfl rfl) rfl (.refl _) (fun m => (TyOk.str.lt _ _)) (SelE.leaf (lk 23 rfl rfl) rfl (.refl _) (fun m => (TyOk.str.lt _ _)) .nil)))) .nil)⟩
    · skip
      refine AWp.exit ?_
      refine thenQ_x ?_
      refine thenQ_x ?_
      refine blockQ_x ?_
      refine thenQ_n ?_
      exact ⟨_, h3.ret, (Wk.selS [] (by decide) rfl (SelE.leaf (lk 11 rfl rfl) rfl (.refl _) (fun m => (TyOk.bool.lt _ _)) (SelE.leaf (lk 12 rfl rfl) rfl (.refl _) (fun m => (TyOk.str.lt _ _)) (SelE.leaf (lk 13 rfl rfl) rfl (.refl _) (fun m => (TyOk.str.lt _ _)) .nil))) .nil)⟩
  · skip
    refine thenQ_n ?_
    refine AWp.seq ?_
    refine W.reg [0, 1, 2, 3, 4, 5] rfl ?_
    refine S.sil 32 rfl rfl (fun _ hF => .move (lk 1 rfl rfl)) ?_
    refine S.sil 33 rfl rfl (fun _ hF => .lenS und9 (lk 0 rfl rfl)) ?_
    refine S.sil 34 rfl rfl (fun _ hF => .move (lk 4 rfl rfl)) ?_
    refine S.sil 35 rfl rfl (fun _ hF => .lenS und9 (lk 0 rfl rfl)) ?_
    refine S.sil 36 rfl rfl (fun _ hF => .lss (lk 2 rfl rfl) (lk 0 rfl rfl)) ?_
    obtain ⟨v10, ev10, h⟩ := h.nam
    refine S.sil 4 rfl rfl (fun _ hF => .nv (.assign (lk 0 rfl rfl)) (congrArg V.bool ev10.symm)) ?_
    refine S.nil ?_
    refine thenQ_n ?_
    refine AWp.ret ?_
    obtain rfl := h.ret
    exact endF1 rfl (Wk.selS [] .nil rfl (SelE.leaf (lk 0 rfl rfl) rfl (.refl _) (fun m => (TyOk.bool.lt _ _)) .nil) .nil) (.tmp (lk 0 rfl rfl) rfl) rfl rfl
theorem C_usufructref13_Fields {a1 : List TField} {r : Bool} (h : usufructref13_Fields a1 = some r) : PureC Pg 15 [.sl 587 .no (List.map E_TField a1)] (V.bool r) := by
  refine PureC.ofF (CallSpec.of_bodyF 38 0 fn15 rfl rfl rfl (Nat.le_of_ble_eq_true rfl) ?_) (ltL_c (lt_sl rfl (ty_TField.ltm _ _)) ltL_nil) (TyOk.bool.lt _ _)
  replace h := Ok.of h
  unfold usufructref13_Fields at h
  refine AWp.seq ?_
  refine W.reg [0] rfl ?_
  refine S.sil 2 rfl rfl (fun _ hF => .assign cB) ?_
  refine S.nil ?_
  refine thenQ_n ?_
  refine AWp.seq ?_
  refine AWp.seq ?_
  refine W.reg [0] rfl ?_
  refine S.sil 3 rfl rfl (fun _ hF => .assign cI) ?_
  refine S.nil ?_
  refine thenQ_n ?_
  refine AWp.cutL (fun x4 => ⟨[(2, V.bool false), (0, .sl 587 .no (List.map E_TField a1))], []⟩) nc_then h (fun q2 hq2 h => ?_) (fun x4 h => ?_)
  · refine AWp.block ?_
    refine AWp.loopT (fun s3 => ⟨[(3, (V.int .i64) s3), (2, V.bool false), (0, .sl 587 .no (List.map E_TField a1))], []⟩) hq2 (Wk.selS [] (by decide) rfl (SelE.leaf (lk 0 rfl rfl) rfl (.refl _) (fun m => ((TyOk.int .i64).lt _ _)) (SelE.leaf (lk 1 rfl rfl) rfl (.refl _) (fun m => (TyOk.bool.lt _ _)) (SelE.leaf (lk 2 rfl rfl) rfl (.refl _) (fun m => (lt_sl rfl (ty_TField.ltm _ _))) .nil))) .nil) (fun _ s3 h2 => ?_)
    rw [usufructref13_Fields_L1] at h2
    refine AWp.seq ?_
    refine AWp.seq ?_
    refine W.reg [0, 1, 2, 3] rfl ?_
    refine S.sil 4 rfl rfl (fun _ hF => .move (lk 0 rfl rfl)) ?_
    refine S.sil 5 rfl rfl (fun _ hF => .move (lk 3 rfl rfl)) ?_
    refine S.sil 6 rfl rfl (fun _ hF => .lenT sli22 (lk 0 rfl rfl) (vsub rfl (.refl _))) ?_
    refine S.sil 7 rfl rfl (fun _ hF => .lss (lk 2 rfl rfl) (lk 0 rfl rfl)) ?_
    refine S.nil ?_
    refine thenQ_n ?_
    refine AWp.condM (lk 0 rfl rfl) h2 (fun c1 h2 => ?_) (fun c1 h2 => ?_)
    · skip
      refine AWp.skip ?_
      refine thenQ_n ?_
      refine AWp.seq ?_
      refine AWp.block ?_
      refine AWp.seq ?_
      refine W.regD [0, 1, 2, 3, 4, 5, 6, 7, 8, 9, 10, 11, 12, 13, 14, 15, 16, 17, 18, 19, 20, 21, 22, 23, 24] mixed ?_
      refine S.sil 10 rfl rfl (fun _ hF => .move (lk 6 rfl rfl)) ?_
      refine S.sil 11 rfl rfl (fun _ hF => .move (lk 5 rfl rfl)) ?_
      obtain ⟨j5, m5, h2⟩ := h2.bnd
      refine S.sil 12 rfl rfl (fun _ hF => .ixS sli22 (lk 1 rfl rfl) (lk 0 rfl rfl) m5) ?_
      obtain ⟨v6, ev6, h2⟩ := h2.nam
      refine S.sil 13 rfl rfl (fun _ hF => .nv (.loadC sz42 ag42 (lk 0 rfl rfl) (ty_TField.fl (a1.getD j5 default)) rfl) (congrArg E_TField ev6.symm)) ?_
      obtain ⟨r7, m7, h2⟩ := h2.bnd
      refine S.sil 14 rfl rfl (fun _ hF => .callQ ent20 cF (.c (lk 0 rfl rfl) (V.sub.refl _) .nil) (C_usufructref07_Right m7)) ?_
      refine S.sil 15 rfl rfl (fun _ hF => .not (lk 0 rfl rfl)) ?_
      refine S.sil 16 rfl rfl (fun _ hF => .move (lk 0 rfl rfl)) ?_
      refine S.gsil 17 6 16 false rfl rfl rfl (lk 0 rfl rfl) (fun hB _ hF => .move (lk 11 rfl rfl)) ?_
      refine S.gsil 18 6 16 false rfl rfl rfl (lk 1 rfl rfl) (fun hB _ hF => .gtr (ifT hB (lk 0 rfl rfl)) cI) ?_
      refine S.gsil 19 6 16 false rfl rfl rfl (lk 2 rfl rfl) (fun hB _ hF => .move (ifT hB (lk 0 rfl rfl))) ?_
      refine S.gsil2 20 9 19 true rfl rfl rfl (lk 0 rfl rfl) (fun hB _ hF => .move (lk 16 rfl rfl)) ?_
      refine S.gsil2 21 9 19 true rfl rfl rfl (lk 1 rfl rfl) (fun hB _ hF => .move (lk 15 rfl rfl)) ?_
      refine S.gsil2 22 9 19 true rfl rfl rfl (lk 2 rfl rfl) (fun hB _ hF => .sub (ifT hB (lk 0 rfl rfl)) cI) ?_
      obtain ⟨j8, m8, h2⟩ := h2.bnd
      refine S.gsil2 23 9 19 true rfl rfl rfl (lk 3 rfl rfl) (fun hB _ hF => .ixS sli22 (ifT hB (lk 2 rfl rfl)) (ifT hB (lk 0 rfl rfl)) (gd_get m8 hB)) ?_
      refine S.gsil2 24 9 19 true rfl rfl rfl (lk 4 rfl rfl) (fun hB _ hF => .fieldAddrC lay42 rfl rfl (ifT hB (lk 0 rfl rfl)) rfl flL_nil) ?_
      refine S.gsil2 25 9 19 true rfl rfl rfl (lk 5 rfl rfl) (fun hB _ hF => .loadC sz9 ag9 (ifT hB (lk 0 rfl rfl)) rfl rfl) ?_
      refine S.gsil2 26 9 19 true rfl rfl rfl (lk 6 rfl rfl) (fun hB _ hF => .move (lk 22 rfl rfl)) ?_
      refine S.gsil2 27 9 19 true rfl rfl rfl (lk 7 rfl rfl) (fun hB _ hF => .move (lk 21 rfl rfl)) ?_
      obtain ⟨j9, m9, h2⟩ := h2.bnd
      refine S.gsil2 28 9 19 true rfl rfl rfl (lk 8 rfl rfl) (fun hB _ hF => .ixS sli22 (ifT hB (lk 1 rfl rfl)) (ifT hB (lk 0 rfl rfl)) (gd_get m9 hB)) ?_
      refine S.gsil2 29 9 19 true rfl rfl rfl (lk 9 rfl rfl) (fun hB _ hF => .fieldAddrC lay42 rfl rfl (ifT hB (lk 0 rfl rfl)) rfl flL_nil) ?_
      refine S.gsil2 30 9 19 true rfl rfl rfl (lk 10 rfl rfl) (fun hB _ hF => .loadC sz9 ag9 (ifT hB (lk 0 rfl rfl)) rfl rfl) ?_
      obtain ⟨r10, m10, h2⟩ := h2.bnd
      refine S.gsil2 31 9 19 true rfl rfl rfl (lk 11 rfl rfl) (fun hB _ hF => .callQ ent60 cF (.c (ifT hB (lk 5 rfl rfl)) (V.sub.refl _) (.c (ifT hB (lk 0 rfl rfl)) (V.sub.refl _) .nil)) (C_usufructref13_before (gd_get m10 hB))) ?_
      refine S.gsil2 32 9 19 true rfl rfl rfl (lk 12 rfl rfl) (fun hB _ hF => .not (ifT hB (lk 0 rfl rfl))) ?_
      refine S.gsil 33 6 16 false rfl rfl rfl (lk 16 rfl rfl) (fun hB _ hF => .pickAnd (ifT hB (lk 13 rfl rfl)) (fun h => ifT ⟨hB, h⟩ (lk 0 rfl rfl)) cB) ?_
      refine S.sil 34 rfl rfl (fun _ hF => .pickOr (lk 17 rfl rfl) cB (fun h => ifT h (lk 0 rfl rfl))) ?_
      refine S.nilD (by kernel_rfl) ?_
      refine thenQ_n ?_
      refine AWp.prune (.eq (lk 0 rfl rfl) rfl (.eq (lk 18 rfl rfl) rfl (.eq (lk 19 rfl rfl) rfl (.eq (lk 20 rfl rfl) rfl (.eq (lk 21 rfl rfl) rfl (.eq (lk 22 rfl rfl) rfl (.eq (lk 23 rfl rfl) rfl (.eq (lk 24 rfl rfl) rfl (.eq (lk 25 rfl rfl) rfl (.eq (lk 26 rfl rfl) rfl (.eq (lk 27 rfl rfl) rfl (.eq (lk 28 rfl rfl) rfl (.eq (lk 29 rfl rfl) rfl (.eq (lk 30 rfl rfl) rfl (.eq (lk 31 rfl rfl) rfl .nil))))))))))))))) ?_
      refine AWp.condM (lk 0 rfl rfl) h2 (fun c2 h2 => ?_) (fun c2 h2 => ?_)
      · skip
        refine AWp.seq ?_
        refine W.reg [0] rfl ?_
        refine S.sil 2 rfl rfl (fun _ hF => .assign cB) ?_
        refine S.nil ?_
        refine thenQ_n ?_
        refine AWp.ret ?_
        refine blockQ_r ?_
        refine thenQ_r ?_
        refine thenQ_r ?_
        refine blockQ_r ?_
        refine thenQ_r ?_
        refine thenQ_r ?_
        have h := Ok.inrq h h2.ret
        obtain rfl := h.ret
        exact endF1 rfl (Wk.selS [] .nil rfl (SelE.leaf (lk 0 rfl rfl) rfl (.refl _) (fun m => (TyOk.bool.lt _ _)) .nil) .nil) (.tmp (lk 0 rfl rfl) rfl) rfl rfl
      · skip
        refine AWp.skip ?_
        refine blockQ_n ?_
        refine thenQ_n ?_
        refine W.reg [0, 1, 2] rfl ?_
        refine S.sil 8 rfl rfl (fun _ hF => .move (lk 12 rfl rfl)) ?_
        refine S.sil 9 rfl rfl (fun _ hF => .add (lk 0 rfl rfl) cI) ?_
        refine S.sil 3 rfl rfl (fun _ hF => .assign (lk 0 rfl rfl)) ?_
        refine S.nil ?_
        refine thenQ_n ?_
        exact ⟨_, h2.ret, (Wk.selS [] (by decide) rfl (SelE.leaf (lk 0 rfl rfl) rfl (.refl _) (fun m => ((TyOk.int .i64).lt _ _)) (SelE.leaf (lk 16 rfl rfl) rfl (.refl _) (fun m => (TyOk.bool.lt _ _)) (SelE.leaf (lk 17 rfl rfl) rfl (.refl _) (fun m => (lt_sl rfl (ty_TField.ltm _ _))) .nil))) .nil)⟩
    · skip
      refine AWp.exit ?_
      refine thenQ_x ?_
      refine thenQ_x ?_
      refine blockQ_x ?_
      refine thenQ_n ?_
      exact ⟨_, h2.ret, (Wk.selS [] (by decide) rfl (SelE.leaf (lk 5 rfl rfl) rfl (.refl _) (fun m => (TyOk.bool.lt _ _)) (SelE.leaf (lk 6 rfl rfl) rfl (.refl _) (fun m => (lt_sl rfl (ty_TField.ltm _ _))) .nil)) .nil)⟩
  · skip
    refine thenQ_n ?_
    refine AWp.seq ?_
    refine W.reg [0, 1, 2, 3] rfl ?_
    refine S.sil 35 rfl rfl (fun _ hF => .move (lk 1 rfl rfl)) ?_
    refine S.sil 36 rfl rfl (fun _ hF => .lenT sli22 (lk 0 rfl rfl) (vsub rfl (.refl _))) ?_
    refine S.sil 37 rfl rfl (fun _ hF => .leq (lk 0 rfl rfl) cI) ?_
    obtain ⟨v11, ev11, h⟩ := h.nam
    refine S.sil 2 rfl rfl (fun _ hF => .nv (.assign (lk 0 rfl rfl)) (congrArg V.bool ev11.symm)) ?_
    refine S.nil ?_
    refine thenQ_n ?_
    refine AWp.ret ?_
    obtain rfl := h.ret
    exact endF1 rfl (Wk.selS [] .nil rfl (SelE.leaf (lk 0 rfl rfl) rfl (.refl _) (fun m => (TyOk.bool.lt _ _)) .nil) .nil) (.tmp (lk 0 rfl rfl) rfl) rfl rfl
theorem C_usufructref13_Right {a1 : TPlan} {r : Bool} (h : usufructref13_Right a1 = some r) : PureC Pg 17 [E_TPlan a1] (V.bool r) := by
  refine PureC.ofF (CallSpec.of_bodyF 120 0 fn17 rfl rfl rfl (Nat.le_of_ble_eq_true rfl) ?_) (ltL_c (ty_TPlan.lt _ _) ltL_nil) (TyOk.bool.lt _ _)
  replace h := Ok.of h
  unfold usufructref13_Right at h
  refine AWp.seq ?_
  refine W.reg [0, 1] rfl ?_
  refine S.eff 1 rfl rfl (.nf (v2 := .ptr 0 [] 0) (H2 := [.cells (E_TPlan a1)]) (.box (lk 0 rfl rfl) rfl) rfl rfl) trivial ?_
  refine S.sil 2 rfl rfl (fun _ hF => .assign cB) ?_
  refine S.nil ?_
  refine thenQ_n ?_
  refine AWp.wk (Wk.freeze 0 rfl rfl (.same (lk 0 rfl rfl) (.cons (lk 1 rfl rfl) rfl (.ptr .nil (by first | rfl | omega)) .nil)) (.refl _)) ?_
  refine AWp.seq ?_
  refine AWp.seq ?_
  refine W.reg [0, 1, 2, 3, 4, 5, 6, 7, 8, 9, 10, 11, 12, 13, 14, 15, 16, 17, 18, 19, 20, 21, 22, 23, 24, 25] rfl ?_
  refine S.sil 4 rfl rfl (fun _ hF => .fieldAddrC lay24 rfl rfl (lk 1 rfl rfl) rfl flL_nil) ?_
  refine S.sil 5 rfl rfl (fun _ hF => .loadC sz3 ag3 (lk 0 rfl rfl) rfl rfl) ?_
  refine S.sil 6 rfl rfl (fun _ hF => .lss (lk 0 rfl rfl) cI) ?_
  refine S.sil 7 rfl rfl (fun _ hF => .move (lk 0 rfl rfl)) ?_
  refine S.gsil 8 3 7 false rfl rfl rfl (lk 0 rfl rfl) (fun hB _ hF => .fieldAddrC lay24 rfl rfl (lk 5 rfl rfl) rfl flL_nil) ?_
  refine S.gsil 9 3 7 false rfl rfl rfl (lk 1 rfl rfl) (fun hB _ hF => .loadC sz3 ag3 (ifT hB (lk 0 rfl rfl)) rfl rfl) ?_
  refine S.gsil 10 3 7 false rfl rfl rfl (lk 2 rfl rfl) (fun hB _ hF => .gtr (ifT hB (lk 0 rfl rfl)) cI) ?_
  refine S.sil 11 rfl rfl (fun _ hF => .pickOr (lk 3 rfl rfl) cB (fun h => ifT h (lk 0 rfl rfl))) ?_
  refine S.sil 12 rfl rfl (fun _ hF => .move (lk 0 rfl rfl)) ?_
  refine S.gsil 13 8 12 false rfl rfl rfl (lk 0 rfl rfl) (fun hB _ hF => .fieldAddrC lay24 rfl rfl (lk 10 rfl rfl) rfl (flL_c (show flen _ = 1 from rfl) flL_nil)) ?_
  refine S.gsil 14 8 12 false rfl rfl rfl (lk 1 rfl rfl) (fun hB _ hF => .loadC sz9 ag9 (ifT hB (lk 0 rfl rfl)) rfl rfl) ?_
  obtain ⟨r2, m2, h⟩ := h.bnd
  refine S.gsil 15 8 12 false rfl rfl rfl (lk 2 rfl rfl) (fun hB _ hF => .callQ ent69 cF (.c (ifT hB (lk 0 rfl rfl)) (V.sub.refl _) .nil) (C_usufructref07_Name (gd_get m2 hB))) ?_
  refine S.gsil 16 8 12 false rfl rfl rfl (lk 3 rfl rfl) (fun hB _ hF => .not (ifT hB (lk 0 rfl rfl))) ?_
  refine S.sil 17 rfl rfl (fun _ hF => .pickOr (lk 4 rfl rfl) cB (fun h => ifT h (lk 0 rfl rfl))) ?_
  refine S.sil 18 rfl rfl (fun _ hF => .move (lk 0 rfl rfl)) ?_
  refine S.gsil 19 14 18 false rfl rfl rfl (lk 0 rfl rfl) (fun hB _ hF => .fieldAddrC lay24 rfl rfl (lk 16 rfl rfl) rfl (flL_c (show flen _ = 1 from rfl) (flL_c (show flen _ = 1 from rfl) (flL_c (show flen _ = 1 from rfl) flL_nil)))) ?_
  refine S.gsil 20 14 18 false rfl rfl rfl (lk 1 rfl rfl) (fun hB _ hF => .loadC sz3 ag3 (ifT hB (lk 0 rfl rfl)) rfl rfl) ?_
  obtain ⟨r3, m3, h⟩ := h.bnd
  refine S.gsil 21 14 18 false rfl rfl rfl (lk 2 rfl rfl) (fun hB _ hF => .callQ ent70 cF (.c (ifT hB (lk 0 rfl rfl)) (V.sub.refl _) .nil) (C_usufructref01_Is (gd_get m3 hB))) ?_
  refine S.gsil 22 14 18 false rfl rfl rfl (lk 3 rfl rfl) (fun hB _ hF => .not (ifT hB (lk 0 rfl rfl))) ?_
  obtain ⟨v4, ev4, h⟩ := h.nam
  refine S.sil 23 rfl rfl (fun _ hF => .nv (.pickOr (lk 4 rfl rfl) cB (fun h => ifT h (lk 0 rfl rfl))) (congrArg V.bool ev4.symm)) ?_
  refine S.sil 24 rfl rfl (fun _ hF => .move (lk 0 rfl rfl)) ?_
  refine S.gsil 25 20 24 false rfl rfl rfl (lk 0 rfl rfl) (fun hB _ hF => .fieldAddrC lay24 rfl rfl (lk 22 rfl rfl) rfl (flL_c (show flen _ = 1 from rfl) (flL_c (show flen _ = 1 from rfl) (flL_c (show flen _ = 1 from rfl) (flL_c (show flen _ = 1 from rfl) flL_nil))))) ?_
  refine S.gsil 26 20 24 false rfl rfl rfl (lk 1 rfl rfl) (fun hB _ hF => .loadC sz3 ag3 (ifT hB (lk 0 rfl rfl)) rfl rfl) ?_
  obtain ⟨r5, m5, h⟩ := h.bnd
  refine S.gsil 27 20 24 false rfl rfl rfl (lk 2 rfl rfl) (fun hB _ hF => .callQ ent70 cF (.c (ifT hB (lk 0 rfl rfl)) (V.sub.refl _) .nil) (C_usufructref01_Is (gd_get m5 hB))) ?_
  refine S.gsil 28 20 24 false rfl rfl rfl (lk 3 rfl rfl) (fun hB _ hF => .not (ifT hB (lk 0 rfl rfl))) ?_
  refine S.sil 29 rfl rfl (fun _ hF => .pickOr (lk 4 rfl rfl) cB (fun h => ifT h (lk 0 rfl rfl))) ?_
  refine S.nil ?_
  refine thenQ_n ?_
  refine AWp.prune (.eq (lk 0 rfl rfl) rfl (.eq (lk 26 rfl rfl) rfl (.eq (lk 27 rfl rfl) rfl .nil))) ?_
  refine AWp.condM (lk 0 rfl rfl) h (fun c1 h => ?_) (fun c1 h => ?_)
  · skip
    refine AWp.seq ?_
    refine W.reg [0] rfl ?_
    refine S.sil 2 rfl rfl (fun _ hF => .assign cB) ?_
    refine S.nil ?_
    refine thenQ_n ?_
    refine AWp.ret ?_
    refine thenQ_r ?_
    obtain rfl := h.ret
    exact endF1 rfl (Wk.selS [] .nil rfl (SelE.leaf (lk 0 rfl rfl) rfl (.refl _) (fun m => (TyOk.bool.lt _ _)) .nil) .nil) (.tmp (lk 0 rfl rfl) rfl) rfl rfl
  · skip
    refine AWp.skip ?_
    refine thenQ_n ?_
    refine AWp.seq ?_
    refine W.reg [0, 1, 2, 3, 4, 5, 6, 7, 8, 9, 10] rfl ?_
    refine S.sil 30 rfl rfl (fun _ hF => .fieldAddrC lay24 rfl rfl (lk 2 rfl rfl) rfl (flL_c (show flen _ = 1 from rfl) (flL_c (show flen _ = 1 from rfl) flL_nil))) ?_
    refine S.sil 31 rfl rfl (fun _ hF => .loadC sz9 ag9 (lk 0 rfl rfl) rfl rfl) ?_
    obtain ⟨r6, m6, h⟩ := h.bnd
    refine S.sil 32 rfl rfl (fun _ hF => .callQ ent69 cF (.c (lk 0 rfl rfl) (V.sub.refl _) .nil) (C_usufructref07_Name m6)) ?_
    refine S.sil 33 rfl rfl (fun _ hF => .move (lk 0 rfl rfl)) ?_
    refine S.gsil 34 3 33 true rfl rfl rfl (lk 0 rfl rfl) (fun hB _ hF => .fieldAddrC lay24 rfl rfl (lk 6 rfl rfl) rfl (flL_c (show flen _ = 1 from rfl) (flL_c (show flen _ = 1 from rfl) flL_nil))) ?_
    refine S.gsil 35 3 33 true rfl rfl rfl (lk 1 rfl rfl) (fun hB _ hF => .loadC sz9 ag9 (ifT hB (lk 0 rfl rfl)) rfl rfl) ?_
    refine S.gsil 36 3 33 true rfl rfl rfl (lk 2 rfl rfl) (fun hB _ hF => .fieldAddrC lay24 rfl rfl (lk 8 rfl rfl) rfl (flL_c (show flen _ = 1 from rfl) flL_nil)) ?_
    refine S.gsil 37 3 33 true rfl rfl rfl (lk 3 rfl rfl) (fun hB _ hF => .loadC sz9 ag9 (ifT hB (lk 0 rfl rfl)) rfl rfl) ?_
    refine S.gsil 38 3 33 true rfl rfl rfl (lk 4 rfl rfl) (fun hB _ hF => .neqS (ifT hB (lk 2 rfl rfl)) (ifT hB (lk 0 rfl rfl))) ?_
    refine S.sil 39 rfl rfl (fun _ hF => .pickAnd (lk 5 rfl rfl) (fun h => ifT h (lk 0 rfl rfl)) cB) ?_
    obtain ⟨v7, ev7, h⟩ := h.nam
    refine S.sil 3 rfl rfl (fun _ hF => .nv (.assign (lk 0 rfl rfl)) (congrArg V.bool ev7.symm)) ?_
    refine S.nil ?_
    refine thenQ_n ?_
    refine AWp.prune (.eq (lk 0 rfl rfl) rfl (.eq (lk 12 rfl rfl) rfl (.eq (lk 13 rfl rfl) rfl .nil))) ?_
    refine AWp.seq ?_
    refine AWp.seq ?_
    refine W.reg [0, 1, 2] rfl ?_
    refine S.sil 40 rfl rfl (fun _ hF => .fieldAddrC lay24 rfl rfl (lk 2 rfl rfl) rfl flL_nil) ?_
    refine S.sil 41 rfl rfl (fun _ hF => .loadC sz3 ag3 (lk 0 rfl rfl) rfl rfl) ?_
    refine S.sil 42 rfl rfl (fun _ hF => .leq (lk 0 rfl rfl) cI) ?_
    refine S.nil ?_
    refine thenQ_n ?_
    refine AWp.condM (lk 0 rfl rfl) h (fun c2 h => ?_) (fun c2 h => ?_)
    · skip
      refine AWp.seq ?_
      refine W.reg [0, 1, 2, 3, 4, 5, 6, 7, 8, 9, 10, 11, 12, 13, 14, 15, 16, 17, 18, 19, 20, 21, 22, 23] rfl ?_
      refine S.sil 43 rfl rfl (fun _ hF => .fieldAddrC lay24 rfl rfl (lk 5 rfl rfl) rfl (flL_c (show flen _ = 1 from rfl) (flL_c (show flen _ = 1 from rfl) flL_nil))) ?_
      refine S.sil 44 rfl rfl (fun _ hF => .loadC sz9 ag9 (lk 0 rfl rfl) rfl rfl) ?_
      refine S.sil 45 rfl rfl (fun _ hF => .eqlS (lk 0 rfl rfl) cS) ?_
      refine S.sil 46 rfl rfl (fun _ hF => .move (lk 0 rfl rfl)) ?_
      refine S.gsil 47 3 46 true rfl rfl rfl (lk 0 rfl rfl) (fun hB _ hF => .fieldAddrC lay24 rfl rfl (lk 9 rfl rfl) rfl (flL_c (show flen _ = 1 from rfl) (flL_c (show flen _ = 1 from rfl) (flL_c (show flen _ = 1 from rfl) flL_nil)))) ?_
      refine S.gsil 48 3 46 true rfl rfl rfl (lk 1 rfl rfl) (fun hB _ hF => .loadC sz3 ag3 (ifT hB (lk 0 rfl rfl)) rfl rfl) ?_
      refine S.gsil 49 3 46 true rfl rfl rfl (lk 2 rfl rfl) (fun hB _ hF => .geq (ifT hB (lk 0 rfl rfl)) cI) ?_
      refine S.sil 50 rfl rfl (fun _ hF => .pickAnd (lk 3 rfl rfl) (fun h => ifT h (lk 0 rfl rfl)) cB) ?_
      refine S.sil 51 rfl rfl (fun _ hF => .move (lk 0 rfl rfl)) ?_
      refine S.gsil 52 8 51 true rfl rfl rfl (lk 0 rfl rfl) (fun hB _ hF => .fieldAddrC lay24 rfl rfl (lk 14 rfl rfl) rfl (flL_c (show flen _ = 1 from rfl) (flL_c (show flen _ = 1 from rfl) (flL_c (show flen _ = 1 from rfl) (flL_c (show flen _ = 1 from rfl) flL_nil))))) ?_
      refine S.gsil 53 8 51 true rfl rfl rfl (lk 1 rfl rfl) (fun hB _ hF => .loadC sz3 ag3 (ifT hB (lk 0 rfl rfl)) rfl rfl) ?_
      refine S.gsil 54 8 51 true rfl rfl rfl (lk 2 rfl rfl) (fun hB _ hF => .geq (ifT hB (lk 0 rfl rfl)) cI) ?_
      obtain ⟨v8, ev8, h⟩ := h.nam
      refine S.sil 55 rfl rfl (fun _ hF => .nv (.pickAnd (lk 3 rfl rfl) (fun h => ifT h (lk 0 rfl rfl)) cB) (congrArg V.bool ev8.symm)) ?_
      refine S.sil 56 rfl rfl (fun _ hF => .move (lk 0 rfl rfl)) ?_
      refine S.gsil 57 13 56 true rfl rfl rfl (lk 0 rfl rfl) (fun hB _ hF => .fieldAddrC lay24 rfl rfl (lk 19 rfl rfl) rfl (flL_c (show flen _ = 1 from rfl) (flL_c (show flen _ = 1 from rfl) (flL_c (show flen _ = 1 from rfl) flL_nil)))) ?_
      refine S.gsil 58 13 56 true rfl rfl rfl (lk 1 rfl rfl) (fun hB _ hF => .loadC sz3 ag3 (ifT hB (lk 0 rfl rfl)) rfl rfl) ?_
      refine S.gsil 59 13 56 true rfl rfl rfl (lk 2 rfl rfl) (fun hB _ hF => .gtr (ifT hB (lk 0 rfl rfl)) cI) ?_
      refine S.gsil 60 13 56 true rfl rfl rfl (lk 3 rfl rfl) (fun hB _ hF => .move (ifT hB (lk 0 rfl rfl))) ?_
      refine S.gsil2 61 17 60 false rfl rfl rfl (lk 0 rfl rfl) (fun hB _ hF => .fieldAddrC lay24 rfl rfl (lk 23 rfl rfl) rfl (flL_c (show flen _ = 1 from rfl) (flL_c (show flen _ = 1 from rfl) (flL_c (show flen _ = 1 from rfl) (flL_c (show flen _ = 1 from rfl) flL_nil))))) ?_
      refine S.gsil2 62 17 60 false rfl rfl rfl (lk 1 rfl rfl) (fun hB _ hF => .loadC sz3 ag3 (ifT hB (lk 0 rfl rfl)) rfl rfl) ?_
      refine S.gsil2 63 17 60 false rfl rfl rfl (lk 2 rfl rfl) (fun hB _ hF => .gtr (ifT hB (lk 0 rfl rfl)) cI) ?_
      refine S.gsil 64 13 56 true rfl rfl rfl (lk 7 rfl rfl) (fun hB _ hF => .pickOr (ifT hB (lk 3 rfl rfl)) cB (fun h => ifT ⟨hB, h⟩ (lk 0 rfl rfl))) ?_
      refine S.sil 65 rfl rfl (fun _ hF => .pickAnd (lk 8 rfl rfl) (fun h => ifT h (lk 0 rfl rfl)) cB) ?_
      obtain ⟨v9, ev9, h⟩ := h.nam
      refine S.sil 2 rfl rfl (fun _ hF => .nv (.assign (lk 0 rfl rfl)) (congrArg V.bool ev9.symm)) ?_
      refine S.nil ?_
      refine thenQ_n ?_
      refine AWp.prune (.eq (lk 0 rfl rfl) rfl (.eq (lk 27 rfl rfl) rfl (.eq (lk 29 rfl rfl) rfl .nil))) ?_
      refine AWp.ret ?_
      refine thenQ_r ?_
      obtain rfl := h.ret
      exact endF1 rfl (Wk.selS [] .nil rfl (SelE.leaf (lk 0 rfl rfl) rfl (.refl _) (fun m => (TyOk.bool.lt _ _)) .nil) .nil) (.tmp (lk 0 rfl rfl) rfl) rfl rfl
    · skip
      refine AWp.skip ?_
      refine thenQ_n ?_
      refine AWp.seq ?_
      refine AWp.seq ?_
      refine W.reg [0, 1, 2] rfl ?_
      refine S.sil 66 rfl rfl (fun _ hF => .fieldAddrC lay24 rfl rfl (lk 5 rfl rfl) rfl flL_nil) ?_
      refine S.sil 67 rfl rfl (fun _ hF => .loadC sz3 ag3 (lk 0 rfl rfl) rfl rfl) ?_
      refine S.sil 68 rfl rfl (fun _ hF => .eql (lk 0 rfl rfl) cI) ?_
      refine S.nil ?_
      refine thenQ_n ?_
      refine AWp.condM (lk 0 rfl rfl) h (fun c3 h => ?_) (fun c3 h => ?_)
      · skip
        refine AWp.seq ?_
        refine W.reg [0, 1, 2, 3, 4, 5, 6, 7, 8, 9, 10, 11, 12, 13] rfl ?_
        refine S.sil 69 rfl rfl (fun _ hF => .fieldAddrC lay24 rfl rfl (lk 8 rfl rfl) rfl (flL_c (show flen _ = 1 from rfl) (flL_c (show flen _ = 1 from rfl) flL_nil))) ?_
        refine S.sil 70 rfl rfl (fun _ hF => .loadC sz9 ag9 (lk 0 rfl rfl) rfl rfl) ?_
        refine S.sil 71 rfl rfl (fun _ hF => .eqlS (lk 0 rfl rfl) cS) ?_
        refine S.sil 72 rfl rfl (fun _ hF => .move (lk 0 rfl rfl)) ?_
        refine S.gsil 73 3 72 true rfl rfl rfl (lk 0 rfl rfl) (fun hB _ hF => .fieldAddrC lay24 rfl rfl (lk 12 rfl rfl) rfl (flL_c (show flen _ = 1 from rfl) (flL_c (show flen _ = 1 from rfl) (flL_c (show flen _ = 1 from rfl) flL_nil)))) ?_
        refine S.gsil 74 3 72 true rfl rfl rfl (lk 1 rfl rfl) (fun hB _ hF => .loadC sz3 ag3 (ifT hB (lk 0 rfl rfl)) rfl rfl) ?_
        refine S.gsil 75 3 72 true rfl rfl rfl (lk 2 rfl rfl) (fun hB _ hF => .eql (ifT hB (lk 0 rfl rfl)) cI) ?_
        refine S.sil 76 rfl rfl (fun _ hF => .pickAnd (lk 3 rfl rfl) (fun h => ifT h (lk 0 rfl rfl)) cB) ?_
        refine S.sil 77 rfl rfl (fun _ hF => .move (lk 0 rfl rfl)) ?_
        refine S.gsil 78 8 77 true rfl rfl rfl (lk 0 rfl rfl) (fun hB _ hF => .fieldAddrC lay24 rfl rfl (lk 17 rfl rfl) rfl (flL_c (show flen _ = 1 from rfl) (flL_c (show flen _ = 1 from rfl) (flL_c (show flen _ = 1 from rfl) (flL_c (show flen _ = 1 from rfl) flL_nil))))) ?_
        refine S.gsil 79 8 77 true rfl rfl rfl (lk 1 rfl rfl) (fun hB _ hF => .loadC sz3 ag3 (ifT hB (lk 0 rfl rfl)) rfl rfl) ?_
        refine S.gsil 80 8 77 true rfl rfl rfl (lk 2 rfl rfl) (fun hB _ hF => .eql (ifT hB (lk 0 rfl rfl)) cI) ?_
        obtain ⟨v10, ev10, h⟩ := h.nam
        refine S.sil 81 rfl rfl (fun _ hF => .nv (.pickAnd (lk 3 rfl rfl) (fun h => ifT h (lk 0 rfl rfl)) cB) (congrArg V.bool ev10.symm)) ?_
        refine S.sil 2 rfl rfl (fun _ hF => .assign (lk 0 rfl rfl)) ?_
        refine S.nil ?_
        refine thenQ_n ?_
        refine AWp.prune (.eq (lk 0 rfl rfl) rfl (.eq (lk 20 rfl rfl) rfl (.eq (lk 22 rfl rfl) rfl .nil))) ?_
        refine AWp.ret ?_
        refine thenQ_r ?_
        obtain rfl := h.ret
        exact endF1 rfl (Wk.selS [] .nil rfl (SelE.leaf (lk 0 rfl rfl) rfl (.refl _) (fun m => (TyOk.bool.lt _ _)) .nil) .nil) (.tmp (lk 0 rfl rfl) rfl) rfl rfl
      · skip
        refine AWp.skip ?_
        refine thenQ_n ?_
        refine AWp.seq ?_
        refine AWp.seq ?_
        refine W.reg [0, 1, 2] rfl ?_
        refine S.sil 82 rfl rfl (fun _ hF => .fieldAddrC lay24 rfl rfl (lk 8 rfl rfl) rfl flL_nil) ?_
        refine S.sil 83 rfl rfl (fun _ hF => .loadC sz3 ag3 (lk 0 rfl rfl) rfl rfl) ?_
        refine S.sil 84 rfl rfl (fun _ hF => .eql (lk 0 rfl rfl) cI) ?_
        refine S.nil ?_
        refine thenQ_n ?_
        refine AWp.condM (lk 0 rfl rfl) h (fun c4 h => ?_) (fun c4 h => ?_)
        · skip
          refine AWp.seq ?_
          refine W.reg [0, 1, 2, 3, 4, 5, 6, 7, 8, 9, 10] rfl ?_
          refine S.sil 85 rfl rfl (fun _ hF => .fieldAddrC lay24 rfl rfl (lk 11 rfl rfl) rfl (flL_c (show flen _ = 1 from rfl) (flL_c (show flen _ = 1 from rfl) flL_nil))) ?_
          refine S.sil 86 rfl rfl (fun _ hF => .loadC sz9 ag9 (lk 0 rfl rfl) rfl rfl) ?_
          refine S.sil 87 rfl rfl (fun _ hF => .eqlS (lk 0 rfl rfl) cS) ?_
          refine S.sil 88 rfl rfl (fun _ hF => .move (lk 0 rfl rfl)) ?_
          refine S.gsil 89 3 88 true rfl rfl rfl (lk 0 rfl rfl) (fun hB _ hF => .fieldAddrC lay24 rfl rfl (lk 15 rfl rfl) rfl (flL_c (show flen _ = 1 from rfl) (flL_c (show flen _ = 1 from rfl) (flL_c (show flen _ = 1 from rfl) flL_nil)))) ?_
          refine S.gsil 90 3 88 true rfl rfl rfl (lk 1 rfl rfl) (fun hB _ hF => .loadC sz3 ag3 (ifT hB (lk 0 rfl rfl)) rfl rfl) ?_
          refine S.gsil 91 3 88 true rfl rfl rfl (lk 2 rfl rfl) (fun hB _ hF => .fieldAddrC lay24 rfl rfl (lk 17 rfl rfl) rfl (flL_c (show flen _ = 1 from rfl) (flL_c (show flen _ = 1 from rfl) (flL_c (show flen _ = 1 from rfl) (flL_c (show flen _ = 1 from rfl) flL_nil))))) ?_
          refine S.gsil 92 3 88 true rfl rfl rfl (lk 3 rfl rfl) (fun hB _ hF => .loadC sz3 ag3 (ifT hB (lk 0 rfl rfl)) rfl rfl) ?_
          refine S.gsil 93 3 88 true rfl rfl rfl (lk 4 rfl rfl) (fun hB _ hF => .leq (ifT hB (lk 2 rfl rfl)) (ifT hB (lk 0 rfl rfl))) ?_
          refine S.sil 94 rfl rfl (fun _ hF => .pickAnd (lk 5 rfl rfl) (fun h => ifT h (lk 0 rfl rfl)) cB) ?_
          obtain ⟨v11, ev11, h⟩ := h.nam
          refine S.sil 2 rfl rfl (fun _ hF => .nv (.assign (lk 0 rfl rfl)) (congrArg V.bool ev11.symm)) ?_
          refine S.nil ?_
          refine thenQ_n ?_
          refine AWp.prune (.eq (lk 0 rfl rfl) rfl (.eq (lk 20 rfl rfl) rfl (.eq (lk 22 rfl rfl) rfl .nil))) ?_
          refine AWp.ret ?_
          refine thenQ_r ?_
          obtain rfl := h.ret
          exact endF1 rfl (Wk.selS [] .nil rfl (SelE.leaf (lk 0 rfl rfl) rfl (.refl _) (fun m => (TyOk.bool.lt _ _)) .nil) .nil) (.tmp (lk 0 rfl rfl) rfl) rfl rfl
        · skip
          refine AWp.skip ?_
          refine thenQ_n ?_
          refine AWp.seq ?_
          refine AWp.seq ?_
          refine W.reg [0, 1, 2] rfl ?_
          refine S.sil 95 rfl rfl (fun _ hF => .fieldAddrC lay24 rfl rfl (lk 11 rfl rfl) rfl flL_nil) ?_
          refine S.sil 96 rfl rfl (fun _ hF => .loadC sz3 ag3 (lk 0 rfl rfl) rfl rfl) ?_
          refine S.sil 97 rfl rfl (fun _ hF => .eql (lk 0 rfl rfl) cI) ?_
          refine S.nil ?_
          refine thenQ_n ?_
          refine AWp.prune (.eq (lk 0 rfl rfl) rfl (.eq (lk 12 rfl rfl) rfl (.eq (lk 13 rfl rfl) rfl (.eq (lk 14 rfl rfl) rfl .nil)))) ?_
          refine AWp.condM (lk 0 rfl rfl) h (fun c5 h => ?_) (fun c5 h => ?_)
          · skip
            refine AWp.seq ?_
            refine W.reg [0, 1, 2, 3, 4, 5, 6, 7, 8, 9, 10, 11] rfl ?_
            refine S.sil 98 rfl rfl (fun _ hF => .move (lk 1 rfl rfl)) ?_
            refine S.sil 99 rfl rfl (fun _ hF => .move (lk 0 rfl rfl)) ?_
            refine S.gsil 100 1 99 true rfl rfl rfl (lk 0 rfl rfl) (fun hB _ hF => .fieldAddrC lay24 rfl rfl (lk 5 rfl rfl) rfl (flL_c (show flen _ = 1 from rfl) (flL_c (show flen _ = 1 from rfl) (flL_c (show flen _ = 1 from rfl) flL_nil)))) ?_
            refine S.gsil 101 1 99 true rfl rfl rfl (lk 1 rfl rfl) (fun hB _ hF => .loadC sz3 ag3 (ifT hB (lk 0 rfl rfl)) rfl rfl) ?_
            refine S.gsil 102 1 99 true rfl rfl rfl (lk 2 rfl rfl) (fun hB _ hF => .gtr (ifT hB (lk 0 rfl rfl)) cI) ?_
            refine S.sil 103 rfl rfl (fun _ hF => .pickAnd (lk 3 rfl rfl) (fun h => ifT h (lk 0 rfl rfl)) cB) ?_
            refine S.sil 104 rfl rfl (fun _ hF => .move (lk 0 rfl rfl)) ?_
            refine S.gsil 105 6 104 true rfl rfl rfl (lk 0 rfl rfl) (fun hB _ hF => .fieldAddrC lay24 rfl rfl (lk 10 rfl rfl) rfl (flL_c (show flen _ = 1 from rfl) (flL_c (show flen _ = 1 from rfl) (flL_c (show flen _ = 1 from rfl) (flL_c (show flen _ = 1 from rfl) flL_nil))))) ?_
            refine S.gsil 106 6 104 true rfl rfl rfl (lk 1 rfl rfl) (fun hB _ hF => .loadC sz3 ag3 (ifT hB (lk 0 rfl rfl)) rfl rfl) ?_
            refine S.gsil 107 6 104 true rfl rfl rfl (lk 2 rfl rfl) (fun hB _ hF => .eql (ifT hB (lk 0 rfl rfl)) cI) ?_
            refine S.sil 108 rfl rfl (fun _ hF => .pickAnd (lk 3 rfl rfl) (fun h => ifT h (lk 0 rfl rfl)) cB) ?_
            obtain ⟨v12, ev12, h⟩ := h.nam
            refine S.sil 2 rfl rfl (fun _ hF => .nv (.assign (lk 0 rfl rfl)) (congrArg V.bool ev12.symm)) ?_
            refine S.nil ?_
            refine thenQ_n ?_
            refine AWp.prune (.eq (lk 0 rfl rfl) rfl (.eq (lk 13 rfl rfl) rfl (.eq (lk 15 rfl rfl) rfl .nil))) ?_
            refine AWp.ret ?_
            refine thenQ_r ?_
            obtain rfl := h.ret
            exact endF1 rfl (Wk.selS [] .nil rfl (SelE.leaf (lk 0 rfl rfl) rfl (.refl _) (fun m => (TyOk.bool.lt _ _)) .nil) .nil) (.tmp (lk 0 rfl rfl) rfl) rfl rfl
          · skip
            refine AWp.skip ?_
            refine thenQ_n ?_
            refine AWp.seq ?_
            refine W.reg [0, 1, 2, 3, 4, 5, 6, 7, 8, 9, 10, 11] rfl ?_
            refine S.sil 109 rfl rfl (fun _ hF => .move (lk 1 rfl rfl)) ?_
            refine S.sil 110 rfl rfl (fun _ hF => .move (lk 0 rfl rfl)) ?_
            refine S.gsil 111 1 110 true rfl rfl rfl (lk 0 rfl rfl) (fun hB _ hF => .fieldAddrC lay24 rfl rfl (lk 5 rfl rfl) rfl (flL_c (show flen _ = 1 from rfl) (flL_c (show flen _ = 1 from rfl) (flL_c (show flen _ = 1 from rfl) flL_nil)))) ?_
            refine S.gsil 112 1 110 true rfl rfl rfl (lk 1 rfl rfl) (fun hB _ hF => .loadC sz3 ag3 (ifT hB (lk 0 rfl rfl)) rfl rfl) ?_
            refine S.gsil 113 1 110 true rfl rfl rfl (lk 2 rfl rfl) (fun hB _ hF => .eql (ifT hB (lk 0 rfl rfl)) cI) ?_
            refine S.sil 114 rfl rfl (fun _ hF => .pickAnd (lk 3 rfl rfl) (fun h => ifT h (lk 0 rfl rfl)) cB) ?_
            refine S.sil 115 rfl rfl (fun _ hF => .move (lk 0 rfl rfl)) ?_
            refine S.gsil 116 6 115 true rfl rfl rfl (lk 0 rfl rfl) (fun hB _ hF => .fieldAddrC lay24 rfl rfl (lk 10 rfl rfl) rfl (flL_c (show flen _ = 1 from rfl) (flL_c (show flen _ = 1 from rfl) (flL_c (show flen _ = 1 from rfl) (flL_c (show flen _ = 1 from rfl) flL_nil))))) ?_
            refine S.gsil 117 6 115 true rfl rfl rfl (lk 1 rfl rfl) (fun hB _ hF => .loadC sz3 ag3 (ifT hB (lk 0 rfl rfl)) rfl rfl) ?_
            refine S.gsil 118 6 115 true rfl rfl rfl (lk 2 rfl rfl) (fun hB _ hF => .eql (ifT hB (lk 0 rfl rfl)) cI) ?_
            refine S.sil 119 rfl rfl (fun _ hF => .pickAnd (lk 3 rfl rfl) (fun h => ifT h (lk 0 rfl rfl)) cB) ?_
            obtain ⟨v13, ev13, h⟩ := h.nam
            refine S.sil 2 rfl rfl (fun _ hF => .nv (.assign (lk 0 rfl rfl)) (congrArg V.bool ev13.symm)) ?_
            refine S.nil ?_
            refine thenQ_n ?_
            refine AWp.prune (.eq (lk 0 rfl rfl) rfl .nil) ?_
            refine AWp.ret ?_
            obtain rfl := h.ret
            exact endF1 rfl (Wk.selS [] .nil rfl (SelE.leaf (lk 0 rfl rfl) rfl (.refl _) (fun m => (TyOk.bool.lt _ _)) .nil) .nil) (.tmp (lk 0 rfl rfl) rfl) rfl rfl
theorem C_usufructref07_Same {a1 : TField} {a2 : TField} {r : Bool} (h : usufructref07_Same a1 a2 = some r) : PureC Pg 23 [E_TField a1, E_TField a2] (V.bool r) := by
  refine PureC.ofF (CallSpec.of_bodyF 66 0 fn23 rfl rfl rfl (Nat.le_of_ble_eq_true rfl) ?_) (ltL_c (ty_TField.lt _ _) (ltL_c (ty_TField.lt _ _) ltL_nil)) (TyOk.bool.lt _ _)
  replace h := Ok.of h
  unfold usufructref07_Same at h
  refine AWp.seq ?_
  refine W.reg [0, 1, 2] rfl ?_
  refine S.eff 2 rfl rfl (.nf (v2 := .ptr 0 [] 0) (H2 := [.cells (E_TField a1)]) (.box (lk 0 rfl rfl) rfl) rfl rfl) trivial ?_
  refine S.eff 3 rfl rfl (.nf (v2 := .ptr 1 [] 0) (H2 := [.cells (E_TField a1), .cells (E_TField a2)]) (.box (lk 2 rfl rfl) rfl) rfl rfl) trivial ?_
  refine S.sil 4 rfl rfl (fun _ hF => .assign cB) ?_
  refine S.nil ?_
  refine thenQ_n ?_
  refine AWp.wk (Wk.freeze 0 rfl rfl (.same (lk 0 rfl rfl) (.same (lk 1 rfl rfl) (.cons (lk 2 rfl rfl) rfl (.ptr .nil (by first | rfl | omega)) .nil))) (.refl _)) ?_
  refine AWp.wk (Wk.freeze 1 rfl rfl (.same (lk 0 rfl rfl) (.cons (lk 1 rfl rfl) rfl (.ptr .nil (by first | rfl | omega)) (.same (lk 2 rfl rfl) .nil))) (.refl _)) ?_
  refine AWp.seq ?_
  refine AWp.seq ?_
  refine W.reg [0, 1, 2, 3, 4, 5, 6, 7, 8, 9, 10, 11, 12, 13, 14, 15, 16, 17, 18, 19, 20, 21, 22, 23, 24, 25, 26, 27, 28, 29, 30, 31, 32, 33, 34, 35, 36, 37, 38, 39, 40, 41] rfl ?_
  refine S.sil 6 rfl rfl (fun _ hF => .fieldAddrC lay42 rfl rfl (lk 2 rfl rfl) rfl flL_nil) ?_
  refine S.sil 7 rfl rfl (fun _ hF => .loadC sz9 ag9 (lk 0 rfl rfl) rfl rfl) ?_
  refine S.sil 8 rfl rfl (fun _ hF => .fieldAddrC lay42 rfl rfl (lk 3 rfl rfl) rfl flL_nil) ?_
  refine S.sil 9 rfl rfl (fun _ hF => .loadC sz9 ag9 (lk 0 rfl rfl) rfl rfl) ?_
  refine S.sil 10 rfl rfl (fun _ hF => .neqS (lk 2 rfl rfl) (lk 0 rfl rfl)) ?_
  refine S.sil 11 rfl rfl (fun _ hF => .move (lk 0 rfl rfl)) ?_
  refine S.gsil 12 5 11 false rfl rfl rfl (lk 0 rfl rfl) (fun hB _ hF => .fieldAddrC lay42 rfl rfl (lk 8 rfl rfl) rfl (flL_c (show flen _ = 1 from rfl) flL_nil)) ?_
  refine S.gsil 13 5 11 false rfl rfl rfl (lk 1 rfl rfl) (fun hB _ hF => .loadC sz3 ag3 (ifT hB (lk 0 rfl rfl)) rfl rfl) ?_
  refine S.gsil 14 5 11 false rfl rfl rfl (lk 2 rfl rfl) (fun hB _ hF => .fieldAddrC lay42 rfl rfl (lk 9 rfl rfl) rfl (flL_c (show flen _ = 1 from rfl) flL_nil)) ?_
  refine S.gsil 15 5 11 false rfl rfl rfl (lk 3 rfl rfl) (fun hB _ hF => .loadC sz3 ag3 (ifT hB (lk 0 rfl rfl)) rfl rfl) ?_
  refine S.gsil 16 5 11 false rfl rfl rfl (lk 4 rfl rfl) (fun hB _ hF => .neq (ifT hB (lk 2 rfl rfl)) (ifT hB (lk 0 rfl rfl))) ?_
  refine S.sil 17 rfl rfl (fun _ hF => .pickOr (lk 5 rfl rfl) cB (fun h => ifT h (lk 0 rfl rfl))) ?_
  refine S.sil 18 rfl rfl (fun _ hF => .move (lk 0 rfl rfl)) ?_
  refine S.gsil 19 12 18 false rfl rfl rfl (lk 0 rfl rfl) (fun hB _ hF => .fieldAddrC lay42 rfl rfl (lk 15 rfl rfl) rfl (flL_c (show flen _ = 1 from rfl) (flL_c (show flen _ = 1 from rfl) flL_nil))) ?_
  refine S.gsil 20 12 18 false rfl rfl rfl (lk 1 rfl rfl) (fun hB _ hF => .loadC sz3 ag3 (ifT hB (lk 0 rfl rfl)) rfl rfl) ?_
  refine S.gsil 21 12 18 false rfl rfl rfl (lk 2 rfl rfl) (fun hB _ hF => .fieldAddrC lay42 rfl rfl (lk 16 rfl rfl) rfl (flL_c (show flen _ = 1 from rfl) (flL_c (show flen _ = 1 from rfl) flL_nil))) ?_
  refine S.gsil 22 12 18 false rfl rfl rfl (lk 3 rfl rfl) (fun hB _ hF => .loadC sz3 ag3 (ifT hB (lk 0 rfl rfl)) rfl rfl) ?_
  refine S.gsil 23 12 18 false rfl rfl rfl (lk 4 rfl rfl) (fun hB _ hF => .neq (ifT hB (lk 2 rfl rfl)) (ifT hB (lk 0 rfl rfl))) ?_
  obtain ⟨v3, ev3, h⟩ := h.nam
  refine S.sil 24 rfl rfl (fun _ hF => .nv (.pickOr (lk 5 rfl rfl) cB (fun h => ifT h (lk 0 rfl rfl))) (congrArg V.bool ev3.symm)) ?_
  refine S.sil 25 rfl rfl (fun _ hF => .move (lk 0 rfl rfl)) ?_
  refine S.gsil 26 19 25 false rfl rfl rfl (lk 0 rfl rfl) (fun hB _ hF => .fieldAddrC lay42 rfl rfl (lk 22 rfl rfl) rfl (flL_c (show flen _ = 1 from rfl) (flL_c (show flen _ = 1 from rfl) (flL_c (show flen _ = 1 from rfl) flL_nil)))) ?_
  refine S.gsil 27 19 25 false rfl rfl rfl (lk 1 rfl rfl) (fun hB _ hF => .loadC sz37 ag37 (ifT hB (lk 0 rfl rfl)) (ty_TCounter.fl a1.Counter) rfl) ?_
  refine S.gsil 28 19 25 false rfl rfl rfl (lk 2 rfl rfl) (fun hB _ hF => .fieldAddrC lay42 rfl rfl (lk 23 rfl rfl) rfl (flL_c (show flen _ = 1 from rfl) (flL_c (show flen _ = 1 from rfl) (flL_c (show flen _ = 1 from rfl) flL_nil)))) ?_
  refine S.gsil 29 19 25 false rfl rfl rfl (lk 3 rfl rfl) (fun hB _ hF => .loadC sz37 ag37 (ifT hB (lk 0 rfl rfl)) (ty_TCounter.fl a2.Counter) rfl) ?_
  refine S.gsil 30 19 25 false rfl rfl rfl (lk 4 rfl rfl) (fun hB _ hF => .neqT eqt37 eqk_TCounter shk_TCounter (ifT hB (lk 2 rfl rfl)) (ifT hB (lk 0 rfl rfl)) rfl rfl) ?_
  refine S.sil 31 rfl rfl (fun _ hF => .pickOr (lk 5 rfl rfl) cB (fun h => ifT h (lk 0 rfl rfl))) ?_
  refine S.sil 32 rfl rfl (fun _ hF => .move (lk 0 rfl rfl)) ?_
  refine S.gsil 33 26 32 false rfl rfl rfl (lk 0 rfl rfl) (fun hB _ hF => .fieldAddrC lay42 rfl rfl (lk 29 rfl rfl) rfl (flL_c (show flen _ = 1 from rfl) (flL_c (show flen _ = 1 from rfl) (flL_c (show flen _ = 1 from rfl) (flL_c (ty_TCounter.fl a1.Counter) flL_nil))))) ?_
  refine S.gsil 34 26 32 false rfl rfl rfl (lk 1 rfl rfl) (fun hB _ hF => .loadC sz39 ag39 (ifT hB (lk 0 rfl rfl)) (ty_TLock.fl a1.Lock) rfl) ?_
  refine S.gsil 35 26 32 false rfl rfl rfl (lk 2 rfl rfl) (fun hB _ hF => .fieldAddrC lay42 rfl rfl (lk 30 rfl rfl) rfl (flL_c (show flen _ = 1 from rfl) (flL_c (show flen _ = 1 from rfl) (flL_c (show flen _ = 1 from rfl) (flL_c (ty_TCounter.fl a2.Counter) flL_nil))))) ?_
  refine S.gsil 36 26 32 false rfl rfl rfl (lk 3 rfl rfl) (fun hB _ hF => .loadC sz39 ag39 (ifT hB (lk 0 rfl rfl)) (ty_TLock.fl a2.Lock) rfl) ?_
  refine S.gsil 37 26 32 false rfl rfl rfl (lk 4 rfl rfl) (fun hB _ hF => .neqT eqt39 eqk_TLock shk_TLock (ifT hB (lk 2 rfl rfl)) (ifT hB (lk 0 rfl rfl)) rfl rfl) ?_
  obtain ⟨v4, ev4, h⟩ := h.nam
  refine S.sil 38 rfl rfl (fun _ hF => .nv (.pickOr (lk 5 rfl rfl) cB (fun h => ifT h (lk 0 rfl rfl))) (congrArg V.bool ev4.symm)) ?_
  refine S.sil 39 rfl rfl (fun _ hF => .move (lk 0 rfl rfl)) ?_
  refine S.gsil 40 33 39 false rfl rfl rfl (lk 0 rfl rfl) (fun hB _ hF => .fieldAddrC lay42 rfl rfl (lk 36 rfl rfl) rfl (flL_c (show flen _ = 1 from rfl) (flL_c (show flen _ = 1 from rfl) (flL_c (show flen _ = 1 from rfl) (flL_c (ty_TCounter.fl a1.Counter) (flL_c (ty_TLock.fl a1.Lock) flL_nil)))))) ?_
  refine S.gsil 41 33 39 false rfl rfl rfl (lk 1 rfl rfl) (fun hB _ hF => .loadC sz40 ag40 (ifT hB (lk 0 rfl rfl)) rfl rfl) ?_
  refine S.gsil 42 33 39 false rfl rfl rfl (lk 2 rfl rfl) (fun hB _ hF => .lenT sli40 (ifT hB (lk 0 rfl rfl)) (vsub rfl (.refl _))) ?_
  refine S.gsil 43 33 39 false rfl rfl rfl (lk 3 rfl rfl) (fun hB _ hF => .fieldAddrC lay42 rfl rfl (lk 38 rfl rfl) rfl (flL_c (show flen _ = 1 from rfl) (flL_c (show flen _ = 1 from rfl) (flL_c (show flen _ = 1 from rfl) (flL_c (ty_TCounter.fl a2.Counter) (flL_c (ty_TLock.fl a2.Lock) flL_nil)))))) ?_
  refine S.gsil 44 33 39 false rfl rfl rfl (lk 4 rfl rfl) (fun hB _ hF => .loadC sz40 ag40 (ifT hB (lk 0 rfl rfl)) rfl rfl) ?_
  refine S.gsil 45 33 39 false rfl rfl rfl (lk 5 rfl rfl) (fun hB _ hF => .lenT sli40 (ifT hB (lk 0 rfl rfl)) (vsub rfl (.refl _))) ?_
  refine S.gsil 46 33 39 false rfl rfl rfl (lk 6 rfl rfl) (fun hB _ hF => .neq (ifT hB (lk 3 rfl rfl)) (ifT hB (lk 0 rfl rfl))) ?_
  refine S.sil 47 rfl rfl (fun _ hF => .pickOr (lk 7 rfl rfl) cB (fun h => ifT h (lk 0 rfl rfl))) ?_
  refine S.nil ?_
  refine thenQ_n ?_
  refine AWp.prune (.eq (lk 0 rfl rfl) rfl (.eq (lk 42 rfl rfl) rfl (.eq (lk 43 rfl rfl) rfl (.eq (lk 44 rfl rfl) rfl .nil)))) ?_
  refine AWp.condM (lk 0 rfl rfl) h (fun c1 h => ?_) (fun c1 h => ?_)
  · skip
    refine AWp.seq ?_
    refine W.reg [0] rfl ?_
    refine S.sil 4 rfl rfl (fun _ hF => .assign cB) ?_
    refine S.nil ?_
    refine thenQ_n ?_
    refine AWp.ret ?_
    refine thenQ_r ?_
    obtain rfl := h.ret
    exact endF1 rfl (Wk.selS [] .nil rfl (SelE.leaf (lk 0 rfl rfl) rfl (.refl _) (fun m => (TyOk.bool.lt _ _)) .nil) .nil) (.tmp (lk 0 rfl rfl) rfl) rfl rfl
  · skip
    refine AWp.skip ?_
    refine thenQ_n ?_
    refine AWp.seq ?_
    refine AWp.seq ?_
    refine W.reg [0] rfl ?_
    refine S.sil 5 rfl rfl (fun _ hF => .assign cI) ?_
    refine S.nil ?_
    refine thenQ_n ?_
    refine AWp.cutL (fun x7 => ⟨[(4, V.bool false)], []⟩) nc_then h (fun q5 hq5 h => ?_) (fun x7 h => ?_)
    · refine AWp.block ?_
      refine AWp.loopT (fun s6 => ⟨[(5, (V.int .i64) s6), (4, V.bool false), (3, .cptr (E_TField a2)), (2, .cptr (E_TField a1))], []⟩) hq5 (Wk.selS [] (by decide) rfl (SelE.leaf (lk 0 rfl rfl) rfl (.refl _) (fun m => ((TyOk.int .i64).lt _ _)) (SelE.leaf (lk 2 rfl rfl) rfl (.refl _) (fun m => (TyOk.bool.lt _ _)) (SelE.leaf (lk 3 rfl rfl) rfl (.refl _) (fun m => (lt_cptr (ty_TField.lt _ _))) (SelE.leaf (lk 4 rfl rfl) rfl (.refl _) (fun m => (lt_cptr (ty_TField.lt _ _))) .nil)))) .nil) (fun _ s6 h5 => ?_)
      rw [usufructref07_Same_L1] at h5
      refine AWp.seq ?_
      refine AWp.seq ?_
      refine W.reg [0, 1, 2, 3, 4] rfl ?_
      refine S.sil 48 rfl rfl (fun _ hF => .move (lk 0 rfl rfl)) ?_
      refine S.sil 49 rfl rfl (fun _ hF => .fieldAddrC lay42 rfl rfl (lk 4 rfl rfl) rfl (flL_c (show flen _ = 1 from rfl) (flL_c (show flen _ = 1 from rfl) (flL_c (show flen _ = 1 from rfl) (flL_c (ty_TCounter.fl a1.Counter) (flL_c (ty_TLock.fl a1.Lock) flL_nil)))))) ?_
      refine S.sil 50 rfl rfl (fun _ hF => .loadC sz40 ag40 (lk 0 rfl rfl) rfl rfl) ?_
      refine S.sil 51 rfl rfl (fun _ hF => .lenT sli40 (lk 0 rfl rfl) (vsub rfl (.refl _))) ?_
      refine S.sil 52 rfl rfl (fun _ hF => .lss (lk 3 rfl rfl) (lk 0 rfl rfl)) ?_
      refine S.nil ?_
      refine thenQ_n ?_
      refine AWp.condM (lk 0 rfl rfl) h5 (fun c2 h5 => ?_) (fun c2 h5 => ?_)
      · skip
        refine AWp.skip ?_
        refine thenQ_n ?_
        refine AWp.seq ?_
        refine AWp.block ?_
        refine AWp.seq ?_
        refine W.regD [0, 1, 2, 3, 4, 5, 6, 7, 8, 9, 10] mixed ?_
        refine S.sil 55 rfl rfl (fun _ hF => .fieldAddrC lay42 rfl rfl (lk 8 rfl rfl) rfl (flL_c (show flen _ = 1 from rfl) (flL_c (show flen _ = 1 from rfl) (flL_c (show flen _ = 1 from rfl) (flL_c (ty_TCounter.fl a1.Counter) (flL_c (ty_TLock.fl a1.Lock) flL_nil)))))) ?_
        refine S.sil 56 rfl rfl (fun _ hF => .loadC sz40 ag40 (lk 0 rfl rfl) rfl rfl) ?_
        refine S.sil 57 rfl rfl (fun _ hF => .move (lk 7 rfl rfl)) ?_
        obtain ⟨j8, m8, h5⟩ := h5.bnd
        refine S.sil 58 rfl rfl (fun _ hF => .ixS sli40 (lk 1 rfl rfl) (lk 0 rfl rfl) m8) ?_
        obtain ⟨v9, ev9, h5⟩ := h5.nam
        refine S.sil 59 rfl rfl (fun _ hF => .nv (.loadC sz101 ag101 (lk 0 rfl rfl) (ty_THold.fl (a1.Holds.getD j8 default)) rfl) (congrArg E_THold ev9.symm)) ?_
        refine S.sil 60 rfl rfl (fun _ hF => .fieldAddrC lay42 rfl rfl (lk 12 rfl rfl) rfl (flL_c (show flen _ = 1 from rfl) (flL_c (show flen _ = 1 from rfl) (flL_c (show flen _ = 1 from rfl) (flL_c (ty_TCounter.fl a2.Counter) (flL_c (ty_TLock.fl a2.Lock) flL_nil)))))) ?_
        refine S.sil 61 rfl rfl (fun _ hF => .loadC sz40 ag40 (lk 0 rfl rfl) rfl rfl) ?_
        refine S.sil 62 rfl rfl (fun _ hF => .move (lk 12 rfl rfl)) ?_
        obtain ⟨j10, m10, h5⟩ := h5.bnd
        refine S.sil 63 rfl rfl (fun _ hF => .ixS sli40 (lk 1 rfl rfl) (lk 0 rfl rfl) m10) ?_
        obtain ⟨v11, ev11, h5⟩ := h5.nam
        refine S.sil 64 rfl rfl (fun _ hF => .nv (.loadC sz101 ag101 (lk 0 rfl rfl) (ty_THold.fl (a2.Holds.getD j10 default)) rfl) (congrArg E_THold ev11.symm)) ?_
        refine S.sil 65 rfl rfl (fun _ hF => .neqT eqt101 eqk_THold shk_THold (lk 5 rfl rfl) (lk 0 rfl rfl) rfl rfl) ?_
        refine S.nilD (by kernel_rfl) ?_
        refine thenQ_n ?_
        refine AWp.condM (lk 0 rfl rfl) h5 (fun c3 h5 => ?_) (fun c3 h5 => ?_)
        · skip
          refine AWp.seq ?_
          refine W.reg [0] rfl ?_
          refine S.sil 4 rfl rfl (fun _ hF => .assign cB) ?_
          refine S.nil ?_
          refine thenQ_n ?_
          refine AWp.ret ?_
          refine blockQ_r ?_
          refine thenQ_r ?_
          refine thenQ_r ?_
          refine blockQ_r ?_
          refine thenQ_r ?_
          refine thenQ_r ?_
          have h := Ok.inrq h h5.ret
          obtain rfl := h.ret
          exact endF1 rfl (Wk.selS [] .nil rfl (SelE.leaf (lk 0 rfl rfl) rfl (.refl _) (fun m => (TyOk.bool.lt _ _)) .nil) .nil) (.tmp (lk 0 rfl rfl) rfl) rfl rfl
        · skip
          refine AWp.skip ?_
          refine blockQ_n ?_
          refine thenQ_n ?_
          refine W.reg [0, 1, 2] rfl ?_
          refine S.sil 53 rfl rfl (fun _ hF => .move (lk 16 rfl rfl)) ?_
          refine S.sil 54 rfl rfl (fun _ hF => .add (lk 0 rfl rfl) cI) ?_
          refine S.sil 5 rfl rfl (fun _ hF => .assign (lk 0 rfl rfl)) ?_
          refine S.nil ?_
          refine thenQ_n ?_
          exact ⟨_, h5.ret, (Wk.selS [] (by decide) rfl (SelE.leaf (lk 0 rfl rfl) rfl (.refl _) (fun m => ((TyOk.int .i64).lt _ _)) (SelE.leaf (lk 20 rfl rfl) rfl (.refl _) (fun m => (TyOk.bool.lt _ _)) (SelE.leaf (lk 21 rfl rfl) rfl (.refl _) (fun m => (lt_cptr (ty_TField.lt _ _))) (SelE.leaf (lk 22 rfl rfl) rfl (.refl _) (fun m => (lt_cptr (ty_TField.lt _ _))) .nil)))) .nil)⟩
      · skip
        refine AWp.exit ?_
        refine thenQ_x ?_
        refine thenQ_x ?_
        refine blockQ_x ?_
        refine thenQ_n ?_
        exact ⟨_, h5.ret, (Wk.selS [] (by decide) rfl (SelE.leaf (lk 6 rfl rfl) rfl (.refl _) (fun m => (TyOk.bool.lt _ _)) .nil) .nil)⟩
    · skip
      refine thenQ_n ?_
      refine AWp.seq ?_
      refine W.reg [0] rfl ?_
      refine S.sil 4 rfl rfl (fun _ hF => .assign cB) ?_
      refine S.nil ?_
      refine thenQ_n ?_
      refine AWp.ret ?_
      obtain rfl := h.ret
      exact endF1 rfl (Wk.selS [] .nil rfl (SelE.leaf (lk 0 rfl rfl) rfl (.refl _) (fun m => (TyOk.bool.lt _ _)) .nil) .nil) (.tmp (lk 0 rfl rfl) rfl) rfl rfl
theorem C_usufructlaw13_Same {a1 : List TField} {a2 : List TField} {r : Bool} (h : usufructlaw13_Same a1 a2 = some r) : PureC Pg 18 [.sl 587 .no (List.map E_TField a1), .sl 587 .no (List.map E_TField a2)] (V.bool r) := by
  refine PureC.ofF (CallSpec.of_bodyF 27 0 fn18 rfl rfl rfl (Nat.le_of_ble_eq_true rfl) ?_) (ltL_c (lt_sl rfl (ty_TField.ltm _ _)) (ltL_c (lt_sl rfl (ty_TField.ltm _ _)) ltL_nil)) (TyOk.bool.lt _ _)
  replace h := Ok.of h
  unfold usufructlaw13_Same at h
  refine AWp.seq ?_
  refine W.reg [0] rfl ?_
  refine S.sil 4 rfl rfl (fun _ hF => .assign cB) ?_
  refine S.nil ?_
  refine thenQ_n ?_
  refine AWp.seq ?_
  refine AWp.seq ?_
  refine W.reg [0, 1, 2, 3, 4] rfl ?_
  refine S.sil 6 rfl rfl (fun _ hF => .move (lk 1 rfl rfl)) ?_
  refine S.sil 7 rfl rfl (fun _ hF => .lenT sli22 (lk 0 rfl rfl) (vsub rfl (.refl _))) ?_
  refine S.sil 8 rfl rfl (fun _ hF => .move (lk 4 rfl rfl)) ?_
  refine S.sil 9 rfl rfl (fun _ hF => .lenT sli22 (lk 0 rfl rfl) (vsub rfl (.refl _))) ?_
  refine S.sil 10 rfl rfl (fun _ hF => .neq (lk 2 rfl rfl) (lk 0 rfl rfl)) ?_
  refine S.nil ?_
  refine thenQ_n ?_
  refine AWp.condM (lk 0 rfl rfl) h (fun c1 h => ?_) (fun c1 h => ?_)
  · skip
    refine AWp.seq ?_
    refine W.reg [0] rfl ?_
    refine S.sil 4 rfl rfl (fun _ hF => .assign cB) ?_
    refine S.nil ?_
    refine thenQ_n ?_
    refine AWp.ret ?_
    refine thenQ_r ?_
    obtain rfl := h.ret
    exact endF1 rfl (Wk.selS [] .nil rfl (SelE.leaf (lk 0 rfl rfl) rfl (.refl _) (fun m => (TyOk.bool.lt _ _)) .nil) .nil) (.tmp (lk 0 rfl rfl) rfl) rfl rfl
  · skip
    refine AWp.skip ?_
    refine thenQ_n ?_
    refine AWp.seq ?_
    refine AWp.seq ?_
    refine W.reg [0, 1, 2] rfl ?_
    refine S.sil 11 rfl rfl (fun _ hF => .move (lk 6 rfl rfl)) ?_
    refine S.sil 12 rfl rfl (fun _ hF => .lenT sli22 (lk 0 rfl rfl) (vsub rfl (.refl _))) ?_
    refine S.sil 13 rfl rfl (fun _ hF => .move cI) ?_
    refine S.nil ?_
    refine thenQ_n ?_
    refine AWp.cutL (fun x5 => ⟨[(4, V.bool false)], []⟩) nc_then h (fun q3 hq3 h => ?_) (fun x5 h => ?_)
    · refine AWp.block ?_
      refine AWp.loopT (fun s4 => ⟨[(13, (V.int .i64) s4), (12, (V.int .i64) (a1.length : Int)), (4, V.bool false), (0, .sl 587 .no (List.map E_TField a1)), (1, .sl 587 .no (List.map E_TField a2))], []⟩) hq3 (Wk.selS [] (by decide) rfl (SelE.leaf (lk 0 rfl rfl) rfl (.refl _) (fun m => ((TyOk.int .i64).lt _ _)) (SelE.leaf (lk 1 rfl rfl) rfl (.refl _) (fun m => ((TyOk.int .i64).lt _ _)) (SelE.leaf (lk 8 rfl rfl) rfl (.refl _) (fun m => (TyOk.bool.lt _ _)) (SelE.leaf (lk 9 rfl rfl) rfl (.refl _) (fun m => (lt_sl rfl (ty_TField.ltm _ _))) (SelE.leaf (lk 10 rfl rfl) rfl (.refl _) (fun m => (lt_sl rfl (ty_TField.ltm _ _))) .nil))))) .nil) (fun _ s4 h3 => ?_)
      rw [usufructlaw13_Same_L1] at h3
      refine AWp.seq ?_
      refine W.reg [0] rfl ?_
      refine S.sil 14 rfl rfl (fun _ hF => .lss (lk 0 rfl rfl) (lk 1 rfl rfl)) ?_
      refine S.nil ?_
      refine thenQ_n ?_
      refine AWp.seq ?_
      refine AWp.condM (lk 0 rfl rfl) h3 (fun c2 h3 => ?_) (fun c2 h3 => ?_)
      · skip
        refine AWp.skip ?_
        refine thenQ_n ?_
        refine AWp.seq ?_
        refine AWp.block ?_
        refine AWp.seq ?_
        refine W.reg [0, 1] rfl ?_
        refine S.sil 15 rfl rfl (fun _ hF => .move (lk 1 rfl rfl)) ?_
        refine S.sil 5 rfl rfl (fun _ hF => .assign (lk 0 rfl rfl)) ?_
        refine S.nil ?_
        refine thenQ_n ?_
        refine AWp.seq ?_
        refine W.regD [0, 1, 2, 3, 4, 5, 6, 7, 8, 9] mixed ?_
        refine S.sil 16 rfl rfl (fun _ hF => .move (lk 6 rfl rfl)) ?_
        refine S.sil 17 rfl rfl (fun _ hF => .move (lk 1 rfl rfl)) ?_
        obtain ⟨j6, m6, h3⟩ := h3.bnd
        refine S.sil 18 rfl rfl (fun _ hF => .ixS sli22 (lk 1 rfl rfl) (lk 0 rfl rfl) m6) ?_
        obtain ⟨v7, ev7, h3⟩ := h3.nam
        refine S.sil 19 rfl rfl (fun _ hF => .nv (.loadC sz42 ag42 (lk 0 rfl rfl) (ty_TField.fl (a1.getD j6 default)) rfl) (congrArg E_TField ev7.symm)) ?_
        refine S.sil 20 rfl rfl (fun _ hF => .move (lk 11 rfl rfl)) ?_
        refine S.sil 21 rfl rfl (fun _ hF => .move (lk 5 rfl rfl)) ?_
        obtain ⟨j8, m8, h3⟩ := h3.bnd
        refine S.sil 22 rfl rfl (fun _ hF => .ixS sli22 (lk 1 rfl rfl) (lk 0 rfl rfl) m8) ?_
        obtain ⟨v9, ev9, h3⟩ := h3.nam
        refine S.sil 23 rfl rfl (fun _ hF => .nv (.loadC sz42 ag42 (lk 0 rfl rfl) (ty_TField.fl (a2.getD j8 default)) rfl) (congrArg E_TField ev9.symm)) ?_
        obtain ⟨r10, m10, h3⟩ := h3.bnd
        refine S.sil 24 rfl rfl (fun _ hF => .callQ ent23 cF (.c (lk 4 rfl rfl) (V.sub.refl _) (.c (lk 0 rfl rfl) (V.sub.refl _) .nil)) (C_usufructref07_Same m10)) ?_
        refine S.sil 25 rfl rfl (fun _ hF => .not (lk 0 rfl rfl)) ?_
        refine S.nilD (by kernel_rfl) ?_
        refine thenQ_n ?_
        refine AWp.condM (lk 0 rfl rfl) h3 (fun c3 h3 => ?_) (fun c3 h3 => ?_)
        · skip
          refine AWp.seq ?_
          refine W.reg [0] rfl ?_
          refine S.sil 4 rfl rfl (fun _ hF => .assign cB) ?_
          refine S.nil ?_
          refine thenQ_n ?_
          refine AWp.ret ?_
          refine blockQ_r ?_
          refine thenQ_r ?_
          refine thenQ_r ?_
          refine blockQ_r ?_
          refine thenQ_r ?_
          refine thenQ_r ?_
          have h := Ok.inrq h h3.ret
          obtain rfl := h.ret
          exact endF1 rfl (Wk.selS [] .nil rfl (SelE.leaf (lk 0 rfl rfl) rfl (.refl _) (fun m => (TyOk.bool.lt _ _)) .nil) .nil) (.tmp (lk 0 rfl rfl) rfl) rfl rfl
        · skip
          refine AWp.skip ?_
          refine blockQ_n ?_
          refine thenQ_n ?_
          refine W.reg [0, 1] rfl ?_
          refine S.sil 26 rfl rfl (fun _ hF => .add (lk 13 rfl rfl) cI) ?_
          refine S.sil 13 rfl rfl (fun _ hF => .move (lk 0 rfl rfl)) ?_
          refine S.nil ?_
          refine thenQ_n ?_
          exact ⟨_, h3.ret, (Wk.selS [] (by decide) rfl (SelE.leaf (lk 0 rfl rfl) rfl (.refl _) (fun m => ((TyOk.int .i64).lt _ _)) (SelE.leaf (lk 16 rfl rfl) rfl (.refl _) (fun m => ((TyOk.int .i64).lt _ _)) (SelE.leaf (lk 17 rfl rfl) rfl (.refl _) (fun m => (TyOk.bool.lt _ _)) (SelE.leaf (lk 18 rfl rfl) rfl (.refl _) (fun m => (lt_sl rfl (ty_TField.ltm _ _))) (SelE.leaf (lk 19 rfl rfl) rfl (.refl _) (fun m => (lt_sl rfl (ty_TField.ltm _ _))) .nil))))) .nil)⟩
      · skip
        refine AWp.exit ?_
        refine thenQ_x ?_
        refine thenQ_x ?_
        refine blockQ_x ?_
        refine thenQ_n ?_
        exact ⟨_, h3.ret, (Wk.selS [] (by decide) rfl (SelE.leaf (lk 3 rfl rfl) rfl (.refl _) (fun m => (TyOk.bool.lt _ _)) .nil) .nil)⟩
    · skip
      refine thenQ_n ?_
      refine AWp.seq ?_
      refine W.reg [0] rfl ?_
      refine S.sil 4 rfl rfl (fun _ hF => .assign cB) ?_
      refine S.nil ?_
      refine thenQ_n ?_
      refine AWp.ret ?_
      obtain rfl := h.ret
      exact endF1 rfl (Wk.selS [] .nil rfl (SelE.leaf (lk 0 rfl rfl) rfl (.refl _) (fun m => (TyOk.bool.lt _ _)) .nil) .nil) (.tmp (lk 0 rfl rfl) rfl) rfl rfl
theorem C_usufructlaw13_PlanOnce {a1 : List TField} {a2 : TPlan} {r : Bool} (h : usufructlaw13_PlanOnce a1 a2 = some r) : PureC Pg 3 [.sl 587 .no (List.map E_TField a1), E_TPlan a2] (V.bool r) := by
  refine PureC.ofF (CallSpec.of_bodyF 107 0 fn3 rfl rfl rfl (Nat.le_of_ble_eq_true rfl) ?_) (ltL_c (lt_sl rfl (ty_TField.ltm _ _)) (ltL_c (ty_TPlan.lt _ _) ltL_nil)) (TyOk.bool.lt _ _)
  replace h := Ok.of h
  unfold usufructlaw13_PlanOnce at h
  refine AWp.seq ?_
  refine W.reg [0, 1] rfl ?_
  refine S.eff 3 rfl rfl (.nf (v2 := .ptr 0 [] 0) (H2 := [.cells (E_TPlan a2)]) (.box (lk 1 rfl rfl) rfl) rfl rfl) trivial ?_
  refine S.sil 4 rfl rfl (fun _ hF => .assign cB) ?_
  refine S.nil ?_
  refine thenQ_n ?_
  refine AWp.wk (Wk.freeze 0 rfl rfl (.same (lk 0 rfl rfl) (.cons (lk 1 rfl rfl) rfl (.ptr .nil (by first | rfl | omega)) (.same (lk 2 rfl rfl) .nil))) (.refl _)) ?_
  refine AWp.seq ?_
  refine AWp.seq ?_
  refine W.reg [0, 1, 2, 3] rfl ?_
  refine S.sil 14 rfl rfl (fun _ hF => .move (lk 2 rfl rfl)) ?_
  refine S.sil 15 rfl rfl (fun _ hF => .loadC sz24 ag24 (lk 2 rfl rfl) (ty_TPlan.fl a2) rfl) ?_
  obtain ⟨r3, m3, h⟩ := h.bnd
  refine S.sil 16 rfl rfl (fun _ hF => .callQ ent10 cF (.c (lk 1 rfl rfl) (V.sub.refl _) (.c (lk 0 rfl rfl) (V.sub.refl _) .nil)) (C_usufructlaw13_Few m3)) ?_
  refine S.sil 17 rfl rfl (fun _ hF => .not (lk 0 rfl rfl)) ?_
  refine S.nil ?_
  refine thenQ_n ?_
  refine AWp.condM (lk 0 rfl rfl) h (fun c1 h => ?_) (fun c1 h => ?_)
  · skip
    refine AWp.seq ?_
    refine W.reg [0, 1] rfl ?_
    obtain ⟨r4, m4, h⟩ := h.bnd
    refine S.sil 18 rfl rfl (fun _ hF => .callQ ent11 cF .nil (C_usufructlaw13_awake m4)) ?_
    refine S.sil 4 rfl rfl (fun _ hF => .assign (lk 0 rfl rfl)) ?_
    refine S.nil ?_
    refine thenQ_n ?_
    refine AWp.ret ?_
    refine thenQ_r ?_
    obtain rfl := h.ret
    exact endF1 rfl (Wk.selS [] .nil rfl (SelE.leaf (lk 0 rfl rfl) rfl (.refl _) (fun m => (TyOk.bool.lt _ _)) .nil) .nil) (.tmp (lk 0 rfl rfl) rfl) rfl rfl
  · skip
    refine AWp.skip ?_
    refine thenQ_n ?_
    refine AWp.seq ?_
    refine W.regD [0, 1, 2, 3, 4, 5, 6, 7, 8] mixed ?_
    refine S.sil 20 rfl rfl (fun _ hF => .move (lk 6 rfl rfl)) ?_
    obtain ⟨r5, m5, h⟩ := h.bnd
    refine S.sil 21 rfl rfl (fun _ hF => .callQ ent13 cF (.c (lk 0 rfl rfl) (V.sub.refl _) .nil) (C_usufructlaw13_own m5)) ?_
    refine S.sil 22 rfl rfl (fun _ hF => .loadC sz24 ag24 (lk 7 rfl rfl) (ty_TPlan.fl a2) rfl) ?_
    obtain ⟨r6, m6, h⟩ := h.bnd
    refine S.sil 23 rfl rfl (fun _ hF => .callQ ent12 cF (.c (lk 1 rfl rfl) (V.sub.refl _) (.c (lk 0 rfl rfl) (V.sub.refl _) .nil)) (C_plan_Apply m6)) ?_
    refine S.sil 19 rfl rfl (fun _ hF => .move (lk 0 rfl rfl)) ?_
    refine S.sil 24 rfl rfl (fun _ hF => .extract (lk 0 rfl rfl) rfl) ?_
    refine S.sil 25 rfl rfl (fun _ hF => .extract (lk 1 rfl rfl) rfl) ?_
    refine S.sil 5 rfl rfl (fun _ hF => .assign (lk 1 rfl rfl)) ?_
    refine S.sil 6 rfl rfl (fun _ hF => .assign (lk 1 rfl rfl)) ?_
    refine S.nilD (by kernel_rfl) ?_
    refine thenQ_n ?_
    refine AWp.prune (.eq (lk 0 rfl rfl) rfl (.eq (lk 1 rfl rfl) rfl (.eq (lk 13 rfl rfl) rfl (.eq (lk 14 rfl rfl) rfl (.eq (lk 15 rfl rfl) rfl .nil))))) ?_
    refine AWp.seq ?_
    refine W.reg [0] rfl ?_
    refine S.sil 7 rfl rfl (fun _ hF => .assign cNs) ?_
    refine S.nil ?_
    refine thenQ_n ?_
    refine AWp.seq ?_
    refine AWp.seq ?_
    refine W.reg [0, 1, 2] rfl ?_
    refine S.sil 26 rfl rfl (fun _ hF => .move (lk 5 rfl rfl)) ?_
    refine S.sil 27 rfl rfl (fun _ hF => .lenT sli22 (lk 0 rfl rfl) (vsub rfl (.refl _))) ?_
    refine S.sil 28 rfl rfl (fun _ hF => .move cI) ?_
    refine S.nil ?_
    refine thenQ_n ?_
    refine AWp.cutL (fun x9 => ⟨[(7, .sl 587 (.tok 0) (List.map E_TField x9)), (6, (V.int .i64) r6.2), (5, .sl 587 .no (List.map E_TField r6.1)), (4, V.bool false), (3, .cptr (E_TPlan a2)), (0, .sl 587 .no (List.map E_TField a1))], [.tail]⟩) nc_then h (fun q7 hq7 h => ?_) (fun x9 h => ?_)
    · refine AWp.block ?_
      refine AWp.loopT (fun s8 => ⟨[(28, (V.int .i64) s8.1), (27, (V.int .i64) (a1.length : Int)), (26, .sl 587 .no (List.map E_TField a1)), (7, .sl 587 (.tok 0) (List.map E_TField s8.2)), (6, (V.int .i64) r6.2), (5, .sl 587 .no (List.map E_TField r6.1)), (4, V.bool false), (3, .cptr (E_TPlan a2)), (0, .sl 587 .no (List.map E_TField a1))], [.tail]⟩) hq7 (Wk.vacant.trans (Wk.selS [1] (by decide) rfl (SelE.leaf (lk 0 rfl rfl) rfl (.refl _) (fun m => ((TyOk.int .i64).lt _ _)) (SelE.leaf (lk 1 rfl rfl) rfl (.refl _) (fun m => ((TyOk.int .i64).lt _ _)) (SelE.leaf (lk 2 rfl rfl) rfl (.refl _) (fun m => (lt_sl rfl (ty_TField.ltm _ _))) (SelE.spec (lk 3 rfl rfl) rfl (.nils_tok _ _) (ren_sl ty_TField _) (lt_sl rfl (ty_TField.ltm _ _)) (SelE.leaf (lk 4 rfl rfl) rfl (.refl _) (fun m => ((TyOk.int .i64).lt _ _)) (SelE.leaf (lk 5 rfl rfl) rfl (.refl _) (fun m => (lt_sl rfl (ty_TField.ltm _ _))) (SelE.leaf (lk 6 rfl rfl) rfl (.refl _) (fun m => (TyOk.bool.lt _ _)) (SelE.leaf (lk 7 rfl rfl) rfl (.refl _) (fun m => (lt_cptr (ty_TPlan.lt _ _))) (SelE.leaf (lk 8 rfl rfl) rfl (.refl _) (fun m => (lt_sl rfl (ty_TField.ltm _ _))) .nil))))))))) (.cons rfl rfl trivial .nil))) (fun _ s8 h7 => ?_)
      rw [usufructlaw13_PlanOnce_L1] at h7
      refine AWp.seq ?_
      refine W.reg [0] rfl ?_
      refine S.sil 29 rfl rfl (fun _ hF => .lss (lk 0 rfl rfl) (lk 1 rfl rfl)) ?_
      refine S.nil ?_
      refine thenQ_n ?_
      refine AWp.seq ?_
      refine AWp.condM (lk 0 rfl rfl) h7 (fun c2 h7 => ?_) (fun c2 h7 => ?_)
      · skip
        refine AWp.skip ?_
        refine thenQ_n ?_
        refine AWp.seq ?_
        refine AWp.block ?_
        refine AWp.seq ?_
        refine W.reg [0, 1, 2, 3] rfl ?_
        obtain ⟨j10, m10, h7⟩ := h7.bnd
        refine S.sil 30 rfl rfl (fun _ hF => .ixS sli22 (lk 3 rfl rfl) (lk 1 rfl rfl) m10) ?_
        obtain ⟨v11, ev11, h7⟩ := h7.nam
        refine S.sil 31 rfl rfl (fun _ hF => .nv (.loadC sz42 ag42 (lk 0 rfl rfl) (ty_TField.fl (a1.getD j10 default)) rfl) (congrArg E_TField ev11.symm)) ?_
        refine S.eff 9 rfl rfl (.nf (v2 := .ptr 1 [] 0) (H2 := [.tail, .cells (.st [V.str (default : ByteArray), (V.int .i64) 0, (V.int .i64) 0, E_TCounter (default : TCounter), E_TLock (default : TLock), .nils])]) (.alloc zv42) rfl rfl) trivial ?_
        refine S.effN rfl rfl (.nf (H2 := [.tail, .cells (E_TField v11)]) (.storeP sz42 (lk 0 rfl rfl) (lk 1 rfl rfl) rfl (.refl _) rfl .nil (by first | rfl | omega) .nil (ty_TField.fl v11) (fl_st (flL_c (show flen _ = 1 from rfl) (flL_c (show flen _ = 1 from rfl) (flL_c (show flen _ = 1 from rfl) (flL_c (ty_TCounter.fl (default : TCounter)) (flL_c (ty_TLock.fl (default : TLock)) (flL_c (show flen _ = 1 from rfl) flL_nil))))))) rfl) rfl rfl) trivial ?_
        refine S.nil ?_
        refine thenQ_n ?_
        refine AWp.wk (Wk.freeze 1 rfl rfl (.cons (lk 0 rfl rfl) rfl (.ptr .nil (by first | rfl | omega)) (.same (lk 1 rfl rfl) (.same (lk 2 rfl rfl) (.same (lk 3 rfl rfl) (.same (lk 4 rfl rfl) (.same (lk 5 rfl rfl) (.same (lk 6 rfl rfl) (.same (lk 7 rfl rfl) (.same (lk 8 rfl rfl) (.same (lk 9 rfl rfl) (.same (lk 10 rfl rfl) (.same (lk 11 rfl rfl) (.same (lk 12 rfl rfl) .nil))))))))))))) (.refl _)) ?_
        refine AWp.seq ?_
        refine W.reg [0, 1, 2, 3, 4, 5, 6, 7, 8] rfl ?_
        refine S.sil 33 rfl rfl (fun _ hF => .loadC sz42 ag42 (lk 0 rfl rfl) (ty_TField.fl v11) rfl) ?_
        refine S.sil 34 rfl rfl (fun _ hF => .loadC sz42 ag42 (lk 1 rfl rfl) (ty_TField.fl v11) rfl) ?_
        obtain ⟨r12, m12, h7⟩ := h7.bnd
        refine S.sil 35 rfl rfl (fun _ hF => .callQ ent14 cF (.c (lk 1 rfl rfl) (V.sub.refl _) (.c (lk 0 rfl rfl) (V.sub.refl _) .nil)) (C_field_Join m12)) ?_
        refine S.sil 32 rfl rfl (fun _ hF => .move (lk 0 rfl rfl)) ?_
        refine S.sil 36 rfl rfl (fun _ hF => .extract (lk 0 rfl rfl) rfl) ?_
        refine S.sil 37 rfl rfl (fun _ hF => .extract (lk 1 rfl rfl) rfl) ?_
        refine S.eff 10 rfl rfl (.nf (v2 := .ptr 2 [] 0) (H2 := [.tail, .dead, .cells (.st [V.str (default : ByteArray), (V.int .i64) 0, (V.int .i64) 0, E_TCounter (default : TCounter), E_TLock (default : TLock), .nils])]) (.alloc zv42) rfl rfl) trivial ?_
        refine S.effN rfl rfl (.nf (H2 := [.tail, .dead, .cells (E_TField r12.1)]) (.storeP sz42 (lk 0 rfl rfl) (lk 2 rfl rfl) rfl (.refl _) rfl .nil (by first | rfl | omega) .nil (ty_TField.fl r12.1) (fl_st (flL_c (show flen _ = 1 from rfl) (flL_c (show flen _ = 1 from rfl) (flL_c (show flen _ = 1 from rfl) (flL_c (ty_TCounter.fl (default : TCounter)) (flL_c (ty_TLock.fl (default : TLock)) (flL_c (show flen _ = 1 from rfl) flL_nil))))))) rfl) rfl rfl) trivial ?_
        refine S.sil 11 rfl rfl (fun _ hF => .assign (lk 1 rfl rfl)) ?_
        refine S.nil ?_
        refine thenQ_n ?_
        refine AWp.wk (Wk.freeze 2 rfl rfl (.same (lk 0 rfl rfl) (.cons (lk 1 rfl rfl) rfl (.ptr .nil (by first | rfl | omega)) (.same (lk 2 rfl rfl) (.same (lk 3 rfl rfl) (.same (lk 4 rfl rfl) (.same (lk 5 rfl rfl) (.same (lk 6 rfl rfl) (.same (lk 7 rfl rfl) (.same (lk 8 rfl rfl) (.same (lk 9 rfl rfl) (.same (lk 10 rfl rfl) (.same (lk 11 rfl rfl) (.same (lk 12 rfl rfl) (.same (lk 13 rfl rfl) (.same (lk 14 rfl rfl) (.same (lk 15 rfl rfl) (.same (lk 16 rfl rfl) (.same (lk 17 rfl rfl) (.same (lk 18 rfl rfl) (.same (lk 19 rfl rfl) (.same (lk 20 rfl rfl) .nil))))))))))))))))))))) (.refl _)) ?_
        refine AWp.seq ?_
        refine AWp.seq ?_
        refine W.reg [0, 1] rfl ?_
        refine S.sil 38 rfl rfl (fun _ hF => .move (lk 0 rfl rfl)) ?_
        refine S.sil 39 rfl rfl (fun _ hF => .neq (lk 0 rfl rfl) cI) ?_
        refine S.nil ?_
        refine thenQ_n ?_
        refine AWp.condM (lk 0 rfl rfl) h7 (fun c3 h7 => ?_) (fun c3 h7 => ?_)
        · skip
          refine AWp.seq ?_
          refine W.reg [0, 1, 2, 3, 4, 5, 6, 7, 8, 9, 10] rfl ?_
          refine S.sil 40 rfl rfl (fun _ hF => .move (lk 22 rfl rfl)) ?_
          obtain ⟨r13, m13, h7⟩ := h7.bnd
          refine S.sil 41 rfl rfl (fun _ hF => .callQ ent15 cF (.c (lk 0 rfl rfl) (V.sub.refl _) .nil) (C_usufructref13_Fields m13)) ?_
          refine S.sil 42 rfl rfl (fun _ hF => .not (lk 0 rfl rfl)) ?_
          refine S.sil 43 rfl rfl (fun _ hF => .move (lk 0 rfl rfl)) ?_
          refine S.gsil 44 3 43 true rfl rfl rfl (lk 0 rfl rfl) (fun hB _ hF => .move (lk 22 rfl rfl)) ?_
          refine S.gsil 45 3 43 true rfl rfl rfl (lk 1 rfl rfl) (fun hB _ hF => .eql (ifT hB (lk 0 rfl rfl)) cI) ?_
          refine S.sil 46 rfl rfl (fun _ hF => .pickAnd (lk 2 rfl rfl) (fun h => ifT h (lk 0 rfl rfl)) cB) ?_
          refine S.sil 47 rfl rfl (fun _ hF => .move (lk 0 rfl rfl)) ?_
          obtain ⟨r14, m14, h7⟩ := h7.bnd
          refine S.gsil 48 7 47 true rfl rfl rfl (lk 0 rfl rfl) (fun hB _ hF => .callQ ent11 cF .nil (C_usufructlaw13_awake (gd_get m14 hB))) ?_
          refine S.sil 49 rfl rfl (fun _ hF => .pickAnd (lk 1 rfl rfl) (fun h => ifT h (lk 0 rfl rfl)) cB) ?_
          obtain ⟨v15, ev15, h7⟩ := h7.nam
          refine S.sil 4 rfl rfl (fun _ hF => .nv (.assign (lk 0 rfl rfl)) (congrArg V.bool ev15.symm)) ?_
          refine S.nil ?_
          refine thenQ_n ?_
          refine AWp.ret ?_
          refine thenQ_r ?_
          refine blockQ_r ?_
          refine thenQ_r ?_
          refine thenQ_r ?_
          refine blockQ_r ?_
          refine thenQ_r ?_
          refine thenQ_r ?_
          have h := Ok.inrq h h7.ret
          obtain rfl := h.ret
          exact endF1 rfl (Wk.selS [] .nil rfl (SelE.leaf (lk 0 rfl rfl) rfl (.refl _) (fun m => (TyOk.bool.lt _ _)) .nil) .nil) (.tmp (lk 0 rfl rfl) rfl) rfl rfl
        · skip
          refine AWp.skip ?_
          refine thenQ_n ?_
          refine W.reg [0, 1, 2, 3, 4] rfl ?_
          refine S.sil 50 rfl rfl (fun _ hF => .move (lk 17 rfl rfl)) ?_
          refine S.sil 51 rfl rfl (fun _ hF => .loadC sz42 ag42 (lk 4 rfl rfl) (ty_TField.fl r12.1) rfl) ?_
          refine S.sil 52 rfl rfl (fun _ hF => .buildSliceW sli22 zv42 rfl rfl (by decide) (.cons (lk 0 rfl rfl) rfl (.refl _) (ty_TField.fl r12.1) .nil)) ?_
          obtain ⟨l16, m16, h7⟩ := h7.bnd
          refine S.eff 53 rfl rfl (.nf (v2 := .sl 587 (.tok 3) (List.map E_TField l16)) (H2 := [.dead, .dead, .dead, .tail]) (.appT sli22 und22 zv42 rfl (by decide) (lk 2 rfl rfl) rfl (lk 0 rfl rfl) Rd.sl m16 rfl) rfl rfl) trivial ?_
          refine S.sil 7 rfl rfl (fun _ hF => .assign (lk 0 rfl rfl)) ?_
          refine S.nil ?_
          refine blockQ_n ?_
          refine thenQ_n ?_
          refine W.reg [0, 1] rfl ?_
          refine S.sil 54 rfl rfl (fun _ hF => .add (lk 19 rfl rfl) cI) ?_
          refine S.sil 28 rfl rfl (fun _ hF => .move (lk 0 rfl rfl)) ?_
          refine S.nil ?_
          refine thenQ_n ?_
          exact ⟨_, h7.ret, (Wk.selS [3] (by decide) rfl (SelE.leaf (lk 0 rfl rfl) rfl (.refl _) (fun m => ((TyOk.int .i64).lt _ _)) (SelE.leaf (lk 22 rfl rfl) rfl (.refl _) (fun m => ((TyOk.int .i64).lt _ _)) (SelE.leaf (lk 23 rfl rfl) rfl (.refl _) (fun m => (lt_sl rfl (ty_TField.ltm _ _))) (SelE.spec (lk 2 rfl rfl) rfl (.refl _) (ren_sl ty_TField _) (lt_sl rfl (ty_TField.ltm _ _)) (SelE.leaf (lk 25 rfl rfl) rfl (.refl _) (fun m => ((TyOk.int .i64).lt _ _)) (SelE.leaf (lk 26 rfl rfl) rfl (.refl _) (fun m => (lt_sl rfl (ty_TField.ltm _ _))) (SelE.leaf (lk 27 rfl rfl) rfl (.refl _) (fun m => (TyOk.bool.lt _ _)) (SelE.leaf (lk 28 rfl rfl) rfl (.refl _) (fun m => (lt_cptr (ty_TPlan.lt _ _))) (SelE.leaf (lk 29 rfl rfl) rfl (.refl _) (fun m => (lt_sl rfl (ty_TField.ltm _ _))) .nil))))))))) (.cons rfl rfl trivial .nil))⟩
      · skip
        refine AWp.exit ?_
        refine thenQ_x ?_
        refine thenQ_x ?_
        refine blockQ_x ?_
        refine thenQ_n ?_
        exact ⟨_, h7.ret, (Wk.selS [0] (by decide) rfl (SelE.spec (lk 4 rfl rfl) rfl (.refl _) (ren_sl ty_TField _) (lt_sl rfl (ty_TField.ltm _ _)) (SelE.leaf (lk 5 rfl rfl) rfl (.refl _) (fun m => ((TyOk.int .i64).lt _ _)) (SelE.leaf (lk 6 rfl rfl) rfl (.refl _) (fun m => (lt_sl rfl (ty_TField.ltm _ _))) (SelE.leaf (lk 7 rfl rfl) rfl (.refl _) (fun m => (TyOk.bool.lt _ _)) (SelE.leaf (lk 8 rfl rfl) rfl (.refl _) (fun m => (lt_cptr (ty_TPlan.lt _ _))) (SelE.leaf (lk 9 rfl rfl) rfl (.refl _) (fun m => (lt_sl rfl (ty_TField.ltm _ _))) .nil)))))) (.cons rfl rfl trivial .nil))⟩
    · skip
      refine thenQ_n ?_
      refine AWp.seq ?_
      refine W.reg [0, 1, 2, 3, 4, 5, 6, 7] rfl ?_
      refine S.sil 56 rfl rfl (fun _ hF => .move (lk 0 rfl rfl)) ?_
      refine S.sil 57 rfl rfl (fun _ hF => .loadC sz24 ag24 (lk 5 rfl rfl) (ty_TPlan.fl a2) rfl) ?_
      obtain ⟨r17, m17, h⟩ := h.bnd
      refine S.sil 58 rfl rfl (fun _ hF => .callQ ent12 cF (.c (lk 1 rfl rfl) (vsub rfl (.forget _ _ _)) (.c (lk 0 rfl rfl) (V.sub.refl _) .nil)) (C_plan_Apply m17)) ?_
      refine S.sil 55 rfl rfl (fun _ hF => .move (lk 0 rfl rfl)) ?_
      refine S.sil 59 rfl rfl (fun _ hF => .extract (lk 0 rfl rfl) rfl) ?_
      refine S.sil 60 rfl rfl (fun _ hF => .extract (lk 1 rfl rfl) rfl) ?_
      refine S.sil 12 rfl rfl (fun _ hF => .assign (lk 1 rfl rfl)) ?_
      refine S.sil 13 rfl rfl (fun _ hF => .assign (lk 1 rfl rfl)) ?_
      refine S.nil ?_
      refine thenQ_n ?_
      refine AWp.seq ?_
      refine AWp.seq ?_
      refine W.reg [0, 1, 2, 3, 4, 5, 6, 7, 8, 9, 10, 11, 12, 13, 14, 15, 16, 17, 18, 19, 20, 21, 22, 23, 24, 25, 26, 27, 28, 29] rfl ?_
      refine S.sil 61 rfl rfl (fun _ hF => .move (lk 9 rfl rfl)) ?_
      refine S.sil 62 rfl rfl (fun _ hF => .eql (lk 0 rfl rfl) cI) ?_
      refine S.sil 63 rfl rfl (fun _ hF => .move (lk 0 rfl rfl)) ?_
      refine S.gsil 64 2 63 true rfl rfl rfl (lk 0 rfl rfl) (fun hB _ hF => .move (lk 16 rfl rfl)) ?_
      refine S.gsil 65 2 63 true rfl rfl rfl (lk 1 rfl rfl) (fun hB _ hF => .loadC sz24 ag24 (lk 16 rfl rfl) (ty_TPlan.fl a2) rfl) ?_
      obtain ⟨r18, m18, h⟩ := h.bnd
      refine S.gsil 66 2 63 true rfl rfl rfl (lk 2 rfl rfl) (fun hB _ hF => .callQ ent16 cF (.c (ifT hB (lk 1 rfl rfl)) (V.sub.refl _) (.c (ifT hB (lk 0 rfl rfl)) (V.sub.refl _) .nil)) (C_plan_Fits (gd_get m18 hB))) ?_
      refine S.gsil 67 2 63 true rfl rfl rfl (lk 3 rfl rfl) (fun hB _ hF => .neq (ifT hB (lk 0 rfl rfl)) cI) ?_
      refine S.sil 68 rfl rfl (fun _ hF => .pickAnd (lk 4 rfl rfl) (fun h => ifT h (lk 0 rfl rfl)) cB) ?_
      refine S.sil 69 rfl rfl (fun _ hF => .move (lk 0 rfl rfl)) ?_
      refine S.gsil 70 8 69 false rfl rfl rfl (lk 0 rfl rfl) (fun hB _ hF => .move (lk 22 rfl rfl)) ?_
      obtain ⟨r19, m19, h⟩ := h.bnd
      refine S.gsil 71 8 69 false rfl rfl rfl (lk 1 rfl rfl) (fun hB _ hF => .callQ ent15 cF (.c (ifT hB (lk 0 rfl rfl)) (V.sub.refl _) .nil) (C_usufructref13_Fields (gd_get m19 hB))) ?_
      refine S.gsil 72 8 69 false rfl rfl rfl (lk 2 rfl rfl) (fun hB _ hF => .not (ifT hB (lk 0 rfl rfl))) ?_
      refine S.gsil 73 8 69 false rfl rfl rfl (lk 3 rfl rfl) (fun hB _ hF => .move (ifT hB (lk 0 rfl rfl))) ?_
      refine S.gsil2 74 12 73 true rfl rfl rfl (lk 0 rfl rfl) (fun hB _ hF => .move (lk 22 rfl rfl)) ?_
      refine S.gsil2 75 12 73 true rfl rfl rfl (lk 1 rfl rfl) (fun hB _ hF => .neq (ifT hB (lk 0 rfl rfl)) cI) ?_
      refine S.gsil 76 8 69 false rfl rfl rfl (lk 6 rfl rfl) (fun hB _ hF => .pickAnd (ifT hB (lk 2 rfl rfl)) (fun h => ifT ⟨hB, h⟩ (lk 0 rfl rfl)) cB) ?_
      obtain ⟨v20, ev20, h⟩ := h.nam
      refine S.sil 77 rfl rfl (fun _ hF => .nv (.pickOr (lk 7 rfl rfl) cB (fun h => ifT h (lk 0 rfl rfl))) (congrArg V.bool ev20.symm)) ?_
      refine S.sil 78 rfl rfl (fun _ hF => .move (lk 0 rfl rfl)) ?_
      refine S.gsil 79 17 78 false rfl rfl rfl (lk 0 rfl rfl) (fun hB _ hF => .move (lk 31 rfl rfl)) ?_
      obtain ⟨r21, m21, h⟩ := h.bnd
      refine S.gsil 80 17 78 false rfl rfl rfl (lk 1 rfl rfl) (fun hB _ hF => .callQ ent15 cF (.c (ifT hB (lk 0 rfl rfl)) (V.sub.refl _) .nil) (C_usufructref13_Fields (gd_get m21 hB))) ?_
      refine S.gsil 81 17 78 false rfl rfl rfl (lk 2 rfl rfl) (fun hB _ hF => .move (ifT hB (lk 0 rfl rfl))) ?_
      refine S.gsil2 82 20 81 true rfl rfl rfl (lk 0 rfl rfl) (fun hB _ hF => .loadC sz24 ag24 (lk 33 rfl rfl) (ty_TPlan.fl a2) rfl) ?_
      obtain ⟨r22, m22, h⟩ := h.bnd
      refine S.gsil2 83 20 81 true rfl rfl rfl (lk 1 rfl rfl) (fun hB _ hF => .callQ ent17 cF (.c (ifT hB (lk 0 rfl rfl)) (V.sub.refl _) .nil) (C_usufructref13_Right (gd_get m22 hB))) ?_
      refine S.gsil2 84 20 81 true rfl rfl rfl (lk 2 rfl rfl) (fun hB _ hF => .not (ifT hB (lk 0 rfl rfl))) ?_
      refine S.gsil 85 17 78 false rfl rfl rfl (lk 6 rfl rfl) (fun hB _ hF => .pickAnd (ifT hB (lk 3 rfl rfl)) (fun h => ifT ⟨hB, h⟩ (lk 0 rfl rfl)) cB) ?_
      refine S.gsil 86 17 78 false rfl rfl rfl (lk 7 rfl rfl) (fun hB _ hF => .move (ifT hB (lk 0 rfl rfl))) ?_
      refine S.gsil2 87 25 86 true rfl rfl rfl (lk 0 rfl rfl) (fun hB _ hF => .move (lk 35 rfl rfl)) ?_
      refine S.gsil2 88 25 86 true rfl rfl rfl (lk 1 rfl rfl) (fun hB _ hF => .neq (ifT hB (lk 0 rfl rfl)) cI) ?_
      refine S.gsil 89 17 78 false rfl rfl rfl (lk 10 rfl rfl) (fun hB _ hF => .pickAnd (ifT hB (lk 2 rfl rfl)) (fun h => ifT ⟨hB, h⟩ (lk 0 rfl rfl)) cB) ?_
      refine S.sil 90 rfl rfl (fun _ hF => .pickOr (lk 11 rfl rfl) cB (fun h => ifT h (lk 0 rfl rfl))) ?_
      refine S.nil ?_
      refine thenQ_n ?_
      refine AWp.prune (.eq (lk 0 rfl rfl) rfl (.eq (lk 30 rfl rfl) rfl (.eq (lk 31 rfl rfl) rfl (.eq (lk 39 rfl rfl) rfl (.eq (lk 40 rfl rfl) rfl (.eq (lk 41 rfl rfl) rfl (.eq (lk 43 rfl rfl) rfl .nil))))))) ?_
      refine AWp.condM (lk 0 rfl rfl) h (fun c4 h => ?_) (fun c4 h => ?_)
      · skip
        refine AWp.seq ?_
        refine W.reg [0] rfl ?_
        refine S.sil 4 rfl rfl (fun _ hF => .assign cB) ?_
        refine S.nil ?_
        refine thenQ_n ?_
        refine AWp.ret ?_
        refine thenQ_r ?_
        obtain rfl := h.ret
        exact endF1 rfl (Wk.selS [] .nil rfl (SelE.leaf (lk 0 rfl rfl) rfl (.refl _) (fun m => (TyOk.bool.lt _ _)) .nil) .nil) (.tmp (lk 0 rfl rfl) rfl) rfl rfl
      · skip
        refine AWp.skip ?_
        refine thenQ_n ?_
        refine AWp.seq ?_
        refine W.reg [0, 1, 2, 3, 4, 5, 6, 7, 8, 9, 10, 11, 12, 13, 14, 15, 16] rfl ?_
        refine S.sil 91 rfl rfl (fun _ hF => .move (lk 6 rfl rfl)) ?_
        obtain ⟨r23, m23, h⟩ := h.bnd
        refine S.sil 92 rfl rfl (fun _ hF => .callQ ent15 cF (.c (lk 0 rfl rfl) (V.sub.refl _) .nil) (C_usufructref13_Fields m23)) ?_
        refine S.sil 93 rfl rfl (fun _ hF => .not (lk 0 rfl rfl)) ?_
        refine S.sil 94 rfl rfl (fun _ hF => .move (lk 0 rfl rfl)) ?_
        refine S.gsil 95 3 94 false rfl rfl rfl (lk 0 rfl rfl) (fun hB _ hF => .move (lk 7 rfl rfl)) ?_
        refine S.gsil 96 3 94 false rfl rfl rfl (lk 1 rfl rfl) (fun hB _ hF => .move (lk 6 rfl rfl)) ?_
        refine S.gsil 97 3 94 false rfl rfl rfl (lk 2 rfl rfl) (fun hB _ hF => .eql (ifT hB (lk 1 rfl rfl)) (ifT hB (lk 0 rfl rfl))) ?_
        refine S.gsil 98 3 94 false rfl rfl rfl (lk 3 rfl rfl) (fun hB _ hF => .move (ifT hB (lk 0 rfl rfl))) ?_
        refine S.gsil2 99 7 98 true rfl rfl rfl (lk 0 rfl rfl) (fun hB _ hF => .move (lk 12 rfl rfl)) ?_
        refine S.gsil2 100 7 98 true rfl rfl rfl (lk 1 rfl rfl) (fun hB _ hF => .move (lk 11 rfl rfl)) ?_
        obtain ⟨r24, m24, h⟩ := h.bnd
        refine S.gsil2 101 7 98 true rfl rfl rfl (lk 2 rfl rfl) (fun hB _ hF => .callQ ent18 cF (.c (ifT hB (lk 1 rfl rfl)) (V.sub.refl _) (.c (ifT hB (lk 0 rfl rfl)) (V.sub.refl _) .nil)) (C_usufructlaw13_Same (gd_get m24 hB))) ?_
        refine S.gsil 102 3 94 false rfl rfl rfl (lk 7 rfl rfl) (fun hB _ hF => .pickAnd (ifT hB (lk 3 rfl rfl)) (fun h => ifT ⟨hB, h⟩ (lk 0 rfl rfl)) cB) ?_
        refine S.sil 103 rfl rfl (fun _ hF => .pickOr (lk 8 rfl rfl) cB (fun h => ifT h (lk 0 rfl rfl))) ?_
        refine S.sil 104 rfl rfl (fun _ hF => .move (lk 0 rfl rfl)) ?_
        obtain ⟨r25, m25, h⟩ := h.bnd
        refine S.gsil 105 13 104 true rfl rfl rfl (lk 0 rfl rfl) (fun hB _ hF => .callQ ent11 cF .nil (C_usufructlaw13_awake (gd_get m25 hB))) ?_
        refine S.sil 106 rfl rfl (fun _ hF => .pickAnd (lk 1 rfl rfl) (fun h => ifT h (lk 0 rfl rfl)) cB) ?_
        obtain ⟨v26, ev26, h⟩ := h.nam
        refine S.sil 4 rfl rfl (fun _ hF => .nv (.assign (lk 0 rfl rfl)) (congrArg V.bool ev26.symm)) ?_
        refine S.nil ?_
        refine thenQ_n ?_
        refine AWp.prune (.eq (lk 0 rfl rfl) rfl .nil) ?_
        refine AWp.ret ?_
        obtain rfl := h.ret
        exact endF1 rfl (Wk.selS [] .nil rfl (SelE.leaf (lk 0 rfl rfl) rfl (.refl _) (fun m => (TyOk.bool.lt _ _)) .nil) .nil) (.tmp (lk 0 rfl rfl) rfl) rfl rfl
end Go.Av
