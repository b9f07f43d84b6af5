/- Each function tells what its mirror tells. -/
import Derived.Test.YtohkehlomnfimaaProg
import Derived.KernelRfl
import Derived.Test.YtohkehlomnfimaaAvM
import Derived.Test.YtohkehlomnfimaaAvG1
namespace Go.Av
open Go.Proofs
set_option linter.unusedVariables false
set_option linter.unusedSimpArgs false
set_option maxHeartbeats 4000000
theorem C_usufructref06_End {a1 : List THold} {a2 : Int} {a3 : Int} {a4 : Int} {r : (List THold) × Int × Int} (h : usufructref06_End a1 a2 a3 a4 = some r) : PureC Pg 24 [.sl 5 .no (List.map E_THold a1), (V.int .i64) a2, (V.int .i64) a3, (V.int .i64) a4] (.tup [E_S_THold r.1, (V.int .i64) r.2.1, (V.int .i64) r.2.2]) := by
  refine PureC.ofF (CallSpec.of_bodyF 66 0 Try.func24 rfl rfl rfl (Nat.le_of_ble_eq_true rfl) ?_) (ltL_c (lt_sl rfl (ty_THold.ltm _ _)) (ltL_c ((TyOk.int .i64).lt _ _) (ltL_c ((TyOk.int .i64).lt _ _) (ltL_c ((TyOk.int .i64).lt _ _) ltL_nil)))) (lt_tup (ltL_c (ty_S_THold.lt _ _) (ltL_c ((TyOk.int .i64).lt _ _) (ltL_c ((TyOk.int .i64).lt _ _) ltL_nil))))
  replace h := Ok.of h
  unfold usufructref06_End at h
  refine AWp.seq ?_
  refine W.reg [0, 1, 2] rfl ?_
  refine S.sil 8 rfl rfl (fun _ hF => .assign cNs) ?_
  refine S.sil 9 rfl rfl (fun _ hF => .assign cI) ?_
  refine S.sil 10 rfl rfl (fun _ hF => .assign cI) ?_
  refine S.nil ?_
  refine thenQ_n ?_
  refine AWp.seq ?_
  refine AWp.seq ?_
  refine W.reg [0, 1, 2, 3, 4, 5, 6, 7, 8, 9, 10] rfl ?_
  refine S.sil 13 rfl rfl (fun _ hF => .move (lk 3 rfl rfl)) ?_
  obtain ⟨r5, m5, h⟩ := h.bnd
  refine S.sil 14 rfl rfl (fun _ hF => .callQ ent18 cF (.c (lk 0 rfl rfl) (V.sub.refl _) .nil) (C_usufructref06_Rights m5)) ?_
  refine S.sil 15 rfl rfl (fun _ hF => .not (lk 0 rfl rfl)) ?_
  refine S.sil 16 rfl rfl (fun _ hF => .move (lk 0 rfl rfl)) ?_
  refine S.gsil 17 3 16 false rfl rfl rfl (lk 0 rfl rfl) (fun hB _ hF => .move (lk 10 rfl rfl)) ?_
  refine S.gsil 18 3 16 false rfl rfl rfl (lk 1 rfl rfl) (fun hB _ hF => .lss (ifT hB (lk 0 rfl rfl)) cI) ?_
  refine S.sil 19 rfl rfl (fun _ hF => .pickOr (lk 2 rfl rfl) cB (fun h => ifT h (lk 0 rfl rfl))) ?_
  refine S.sil 20 rfl rfl (fun _ hF => .move (lk 0 rfl rfl)) ?_
  refine S.gsil 21 7 20 false rfl rfl rfl (lk 0 rfl rfl) (fun hB _ hF => .move (lk 14 rfl rfl)) ?_
  refine S.gsil 22 7 20 false rfl rfl rfl (lk 1 rfl rfl) (fun hB _ hF => .gtr (ifT hB (lk 0 rfl rfl)) cI) ?_
  refine S.sil 23 rfl rfl (fun _ hF => .pickOr (lk 2 rfl rfl) cB (fun h => ifT h (lk 0 rfl rfl))) ?_
  refine S.nil ?_
  refine thenQ_n ?_
  refine AWp.prune (.eq (lk 0 rfl rfl) rfl (.eq (lk 11 rfl rfl) rfl (.eq (lk 12 rfl rfl) rfl (.eq (lk 13 rfl rfl) rfl (.eq (lk 14 rfl rfl) rfl (.eq (lk 15 rfl rfl) rfl (.eq (lk 16 rfl rfl) rfl (.eq (lk 17 rfl rfl) rfl .nil)))))))) ?_
  refine AWp.condM (lk 0 rfl rfl) h (fun c1 h => ?_) (fun c1 h => ?_)
  · skip
    refine AWp.seq ?_
    refine W.reg [0, 1, 2] rfl ?_
    refine S.sil 8 rfl rfl (fun _ hF => .assign cNs) ?_
    refine S.sil 9 rfl rfl (fun _ hF => .assign cI) ?_
    refine S.sil 10 rfl rfl (fun _ hF => .assign cI) ?_
    refine S.nil ?_
    refine thenQ_n ?_
    refine AWp.ret ?_
    refine thenQ_r ?_
    obtain rfl := h.ret
    exact endFN rfl (Wk.selS [] .nil rfl (SelE.leaf (lk 2 rfl rfl) rfl (.nils_no _) (fun m => (ty_S_THold.lt ([] : List THold) _)) (SelE.leaf (lk 1 rfl rfl) rfl (.refl _) (fun m => ((TyOk.int .i64).lt _ _)) (SelE.leaf (lk 0 rfl rfl) rfl (.refl _) (fun m => ((TyOk.int .i64).lt _ _)) .nil))) .nil) (.cons (.tmp (lk 0 rfl rfl) rfl) (.cons (.tmp (lk 1 rfl rfl) rfl) (.cons (.tmp (lk 2 rfl rfl) rfl) .nil))) rfl rfl rfl
  · skip
    refine AWp.skip ?_
    refine thenQ_n ?_
    refine AWp.seq ?_
    refine AWp.seq ?_
    refine W.reg [0] rfl ?_
    refine S.sil 11 rfl rfl (fun _ hF => .assign cI) ?_
    refine S.nil ?_
    refine thenQ_n ?_
    refine AWp.cutL (fun x8 => ⟨[(10, (V.int .i64) 0), (9, (V.int .i64) 0), (8, .nils)], []⟩) nc_then h (fun q6 hq6 h => ?_) (fun x8 h => ?_)
    · refine AWp.block ?_
      refine AWp.loopT (fun s7 => ⟨[(11, (V.int .i64) s7), (10, (V.int .i64) 0), (9, (V.int .i64) 0), (8, .nils), (0, .sl 5 .no (List.map E_THold a1)), (1, (V.int .i64) a2), (2, (V.int .i64) a3), (3, (V.int .i64) a4)], []⟩) hq6 (Wk.selS [] (by decide) rfl (SelE.leaf (lk 0 rfl rfl) rfl (.refl _) (fun m => ((TyOk.int .i64).lt _ _)) (SelE.leaf (lk 2 rfl rfl) rfl (.refl _) (fun m => ((TyOk.int .i64).lt _ _)) (SelE.leaf (lk 3 rfl rfl) rfl (.refl _) (fun m => ((TyOk.int .i64).lt _ _)) (SelE.leaf (lk 4 rfl rfl) rfl (.refl _) (fun m => rfl) (SelE.leaf (lk 5 rfl rfl) rfl (.refl _) (fun m => (lt_sl rfl (ty_THold.ltm _ _))) (SelE.leaf (lk 6 rfl rfl) rfl (.refl _) (fun m => ((TyOk.int .i64).lt _ _)) (SelE.leaf (lk 7 rfl rfl) rfl (.refl _) (fun m => ((TyOk.int .i64).lt _ _)) (SelE.leaf (lk 8 rfl rfl) rfl (.refl _) (fun m => ((TyOk.int .i64).lt _ _)) .nil)))))))) .nil) (fun _ s7 h6 => ?_)
      rw [usufructref06_End_L1] at h6
      refine AWp.seq ?_
      refine AWp.seq ?_
      refine W.reg [0, 1, 2, 3] rfl ?_
      refine S.sil 24 rfl rfl (fun _ hF => .move (lk 0 rfl rfl)) ?_
      refine S.sil 25 rfl rfl (fun _ hF => .move (lk 5 rfl rfl)) ?_
      refine S.sil 26 rfl rfl (fun _ hF => .lenT sli22 (lk 0 rfl rfl) (vsub rfl (.refl _))) ?_
      refine S.sil 27 rfl rfl (fun _ hF => .lss (lk 2 rfl rfl) (lk 0 rfl rfl)) ?_
      refine S.nil ?_
      refine thenQ_n ?_
      refine AWp.condM (lk 0 rfl rfl) h6 (fun c2 h6 => ?_) (fun c2 h6 => ?_)
      · skip
        refine AWp.skip ?_
        refine thenQ_n ?_
        refine AWp.seq ?_
        refine AWp.block ?_
        refine AWp.seq ?_
        refine W.reg [0, 1, 2, 3, 4, 5, 6, 7, 8, 9, 10, 11, 12, 13, 14, 15] rfl ?_
        refine S.sil 30 rfl rfl (fun _ hF => .move (lk 8 rfl rfl)) ?_
        refine S.sil 31 rfl rfl (fun _ hF => .move (lk 5 rfl rfl)) ?_
        obtain ⟨j9, m9, h6⟩ := h6.bnd
        refine S.sil 32 rfl rfl (fun _ hF => .ixS sli22 (lk 1 rfl rfl) (lk 0 rfl rfl) m9) ?_
        refine S.sil 33 rfl rfl (fun _ hF => .fieldAddrC lay29 rfl rfl (lk 0 rfl rfl) rfl flL_nil) ?_
        refine S.sil 34 rfl rfl (fun _ hF => .loadC sz3 ag3 (lk 0 rfl rfl) rfl rfl) ?_
        refine S.sil 35 rfl rfl (fun _ hF => .move (lk 14 rfl rfl)) ?_
        refine S.sil 36 rfl rfl (fun _ hF => .eql (lk 1 rfl rfl) (lk 0 rfl rfl)) ?_
        refine S.sil 37 rfl rfl (fun _ hF => .move (lk 0 rfl rfl)) ?_
        refine S.gsil 38 7 37 true rfl rfl rfl (lk 0 rfl rfl) (fun hB _ hF => .move (lk 16 rfl rfl)) ?_
        refine S.gsil 39 7 37 true rfl rfl rfl (lk 1 rfl rfl) (fun hB _ hF => .move (lk 13 rfl rfl)) ?_
        obtain ⟨j10, m10, h6⟩ := h6.bnd
        refine S.gsil 40 7 37 true rfl rfl rfl (lk 2 rfl rfl) (fun hB _ hF => .ixS sli22 (ifT hB (lk 1 rfl rfl)) (ifT hB (lk 0 rfl rfl)) (gd_get m10 hB)) ?_
        refine S.gsil 41 7 37 true rfl rfl rfl (lk 3 rfl rfl) (fun hB _ hF => .fieldAddrC lay29 rfl rfl (ifT hB (lk 0 rfl rfl)) rfl (flL_c rfl flL_nil)) ?_
        refine S.gsil 42 7 37 true rfl rfl rfl (lk 4 rfl rfl) (fun hB _ hF => .loadC sz3 ag3 (ifT hB (lk 0 rfl rfl)) rfl rfl) ?_
        refine S.gsil 43 7 37 true rfl rfl rfl (lk 5 rfl rfl) (fun hB _ hF => .move (lk 23 rfl rfl)) ?_
        refine S.gsil 44 7 37 true rfl rfl rfl (lk 6 rfl rfl) (fun hB _ hF => .eql (ifT hB (lk 1 rfl rfl)) (ifT hB (lk 0 rfl rfl))) ?_
        obtain ⟨v11, ev11, h6⟩ := h6.nam
        refine S.sil 45 rfl rfl (fun _ hF => .nv (.pickAnd (lk 7 rfl rfl) (fun h => ifT h (lk 0 rfl rfl)) cB) (congrArg V.bool ev11.symm)) ?_
        refine S.nil ?_
        refine thenQ_n ?_
        refine AWp.condM (lk 0 rfl rfl) h6 (fun c3 h6 => ?_) (fun c3 h6 => ?_)
        · skip
          refine AWp.seq ?_
          refine AWp.seq ?_
          refine W.reg [0, 1, 2, 3, 4, 5] rfl ?_
          refine S.sil 46 rfl rfl (fun _ hF => .move (lk 24 rfl rfl)) ?_
          refine S.sil 47 rfl rfl (fun _ hF => .move (lk 21 rfl rfl)) ?_
          obtain ⟨j12, m12, h6⟩ := h6.bnd
          refine S.sil 48 rfl rfl (fun _ hF => .ixS sli22 (lk 1 rfl rfl) (lk 0 rfl rfl) m12) ?_
          refine S.sil 49 rfl rfl (fun _ hF => .fieldAddrC lay29 rfl rfl (lk 0 rfl rfl) rfl (flL_c rfl (flL_c rfl (flL_c rfl (flL_c rfl flL_nil))))) ?_
          refine S.sil 50 rfl rfl (fun _ hF => .loadC sz3 ag3 (lk 0 rfl rfl) rfl rfl) ?_
          refine S.sil 51 rfl rfl (fun _ hF => .neq (lk 0 rfl rfl) cI) ?_
          refine S.nil ?_
          refine thenQ_n ?_
          refine AWp.condM (lk 0 rfl rfl) h6 (fun c4 h6 => ?_) (fun c4 h6 => ?_)
          · skip
            refine AWp.seq ?_
            refine W.reg [0, 1, 2] rfl ?_
            refine S.sil 8 rfl rfl (fun _ hF => .assign cNs) ?_
            refine S.sil 9 rfl rfl (fun _ hF => .assign cI) ?_
            refine S.sil 10 rfl rfl (fun _ hF => .assign cI) ?_
            refine S.nil ?_
            refine thenQ_n ?_
            refine AWp.prune (.eq (lk 0 rfl rfl) rfl (.eq (lk 1 rfl rfl) rfl (.eq (lk 2 rfl rfl) rfl (.eq (lk 3 rfl rfl) rfl (.eq (lk 4 rfl rfl) rfl (.eq (lk 5 rfl rfl) rfl (.eq (lk 6 rfl rfl) rfl (.eq (lk 7 rfl rfl) rfl (.eq (lk 8 rfl rfl) rfl (.eq (lk 9 rfl rfl) rfl (.eq (lk 17 rfl rfl) rfl (.eq (lk 18 rfl rfl) rfl (.eq (lk 19 rfl rfl) rfl (.eq (lk 20 rfl rfl) rfl (.eq (lk 21 rfl rfl) rfl (.eq (lk 22 rfl rfl) rfl (.eq (lk 23 rfl rfl) rfl (.eq (lk 24 rfl rfl) rfl (.eq (lk 25 rfl rfl) rfl (.eq (lk 26 rfl rfl) rfl (.eq (lk 27 rfl rfl) rfl (.eq (lk 28 rfl rfl) rfl (.eq (lk 29 rfl rfl) rfl (.eq (lk 33 rfl rfl) rfl (.eq (lk 34 rfl rfl) rfl (.eq (lk 35 rfl rfl) rfl (.eq (lk 36 rfl rfl) rfl .nil))))))))))))))))))))))))))) ?_
            refine AWp.ret ?_
            refine thenQ_r ?_
            refine blockQ_r ?_
            refine thenQ_r ?_
            refine thenQ_r ?_
            refine blockQ_r ?_
            refine thenQ_r ?_
            refine thenQ_r ?_
            have h := Ok.inrq h h6.ret
            obtain rfl := h.ret
            exact endFN rfl (Wk.selS [] .nil rfl (SelE.leaf (lk 2 rfl rfl) rfl (.nils_no _) (fun m => (ty_S_THold.lt ([] : List THold) _)) (SelE.leaf (lk 1 rfl rfl) rfl (.refl _) (fun m => ((TyOk.int .i64).lt _ _)) (SelE.leaf (lk 0 rfl rfl) rfl (.refl _) (fun m => ((TyOk.int .i64).lt _ _)) .nil))) .nil) (.cons (.tmp (lk 0 rfl rfl) rfl) (.cons (.tmp (lk 1 rfl rfl) rfl) (.cons (.tmp (lk 2 rfl rfl) rfl) .nil))) rfl rfl rfl
          · skip
            refine AWp.skip ?_
            refine thenQ_n ?_
            refine AWp.seq ?_
            refine W.reg [0, 1, 2, 3] rfl ?_
            refine S.sil 52 rfl rfl (fun _ hF => .buildSliceW sli22 zv29 rfl rfl (by decide) .nil) ?_
            refine S.sil 53 rfl rfl (fun _ hF => .move (lk 31 rfl rfl)) ?_
            obtain ⟨l13, m13, h6⟩ := h6.bnd
            refine S.eff 54 rfl rfl (.nf (v2 := .slo 5 0 [] 0 0 l13.length 1) (H2 := [.buf 5 (List.map E_THold l13)]) (.appNewT sli22 und22 zv29 rfl (by decide) (lk 1 rfl rfl) (V.sub.refl _) (lk 0 rfl rfl) Rd.sl m13 rfl) rfl rfl) trivial ?_
            refine S.sil 12 rfl rfl (fun _ hF => .assign (lk 0 rfl rfl)) ?_
            refine S.nil ?_
            refine thenQ_n ?_
            refine AWp.seq ?_
            refine W.reg [0, 1, 2, 3, 4, 5] rfl ?_
            refine S.sil 55 rfl rfl (fun _ hF => .move (lk 0 rfl rfl)) ?_
            refine S.sil 56 rfl rfl (fun _ hF => .move (lk 31 rfl rfl)) ?_
            refine S.sil 57 rfl rfl (fun _ hF => .move (lk 39 rfl rfl)) ?_
            obtain ⟨j14, m14, h6⟩ := h6.bnd
            refine S.sil 58 rfl rfl (fun _ hF => .ixO sli22 (lk 2 rfl rfl) (lk 1 rfl rfl) (by first | rfl | simp) m14) ?_
            refine S.sil 59 rfl rfl (fun _ hF => .fieldAddr lay29 rfl rfl (lk 0 rfl rfl)) ?_
            obtain ⟨v15, ev15, h6⟩ := h6.nam
            refine S.effN rfl rfl (.nf (H2 := [.buf 5 (List.map E_THold v15)]) (.storeB sz3 (lk 0 rfl rfl) (lk 2 rfl rfl) rfl (.refl _) rfl (.ls (by have := six_lt m14; simp at this ⊢; omega) (.st rfl (flL_c rfl (flL_c rfl (flL_c rfl (flL_c rfl flL_nil)))) .nil)) (by first | rfl | omega) (.ls ({ (l13.getD j14 default) with State := a4 }) (by have := six_lt m14; simp at this ⊢; omega) (.st rfl .nil rfl)) rfl rfl (congrArg (fun z => [AObj.buf 5 (List.map E_THold z)]) ev15.symm)) rfl rfl) trivial ?_
            refine S.nil ?_
            refine thenQ_n ?_
            refine AWp.seq ?_
            refine W.regD [0, 1, 2, 3, 4, 5, 6, 7, 8] mixed ?_
            refine S.sil 60 rfl rfl (fun _ hF => .move (lk 5 rfl rfl)) ?_
            refine S.sil 61 rfl rfl (fun _ hF => .move (lk 40 rfl rfl)) ?_
            refine S.sil 62 rfl rfl (fun _ hF => .move (lk 37 rfl rfl)) ?_
            obtain ⟨j16, m16, h6⟩ := h6.bnd
            refine S.sil 63 rfl rfl (fun _ hF => .ixS sli22 (lk 1 rfl rfl) (lk 0 rfl rfl) m16) ?_
            refine S.sil 64 rfl rfl (fun _ hF => .fieldAddrC lay29 rfl rfl (lk 0 rfl rfl) rfl (flL_c rfl (flL_c rfl flL_nil))) ?_
            refine S.sil 65 rfl rfl (fun _ hF => .loadC sz3 ag3 (lk 0 rfl rfl) rfl rfl) ?_
            refine S.sil 8 rfl rfl (fun _ hF => .assign (lk 5 rfl rfl)) ?_
            obtain ⟨v17, ev17, h6⟩ := h6.nam
            refine S.sil 9 rfl rfl (fun _ hF => .nv (.assign (lk 1 rfl rfl)) (congrArg (V.int .i64) ev17.symm)) ?_
            refine S.sil 10 rfl rfl (fun _ hF => .assign cI) ?_
            refine S.nilD (by kernel_rfl) ?_
            refine thenQ_n ?_
            refine AWp.prune (.eq (lk 0 rfl rfl) rfl (.eq (lk 1 rfl rfl) rfl (.eq (lk 2 rfl rfl) rfl (.eq (lk 3 rfl rfl) rfl (.eq (lk 4 rfl rfl) rfl (.eq (lk 5 rfl rfl) rfl (.eq (lk 6 rfl rfl) rfl (.eq (lk 7 rfl rfl) rfl (.eq (lk 8 rfl rfl) rfl (.eq (lk 9 rfl rfl) rfl (.eq (lk 10 rfl rfl) rfl (.eq (lk 11 rfl rfl) rfl (.eq (lk 12 rfl rfl) rfl (.eq (lk 13 rfl rfl) rfl (.eq (lk 14 rfl rfl) rfl (.eq (lk 15 rfl rfl) rfl (.eq (lk 16 rfl rfl) rfl (.eq (lk 17 rfl rfl) rfl (.eq (lk 18 rfl rfl) rfl (.eq (lk 19 rfl rfl) rfl (.eq (lk 20 rfl rfl) rfl (.eq (lk 21 rfl rfl) rfl (.eq (lk 22 rfl rfl) rfl (.eq (lk 23 rfl rfl) rfl (.eq (lk 24 rfl rfl) rfl (.eq (lk 32 rfl rfl) rfl (.eq (lk 33 rfl rfl) rfl (.eq (lk 34 rfl rfl) rfl (.eq (lk 35 rfl rfl) rfl (.eq (lk 36 rfl rfl) rfl (.eq (lk 37 rfl rfl) rfl (.eq (lk 38 rfl rfl) rfl (.eq (lk 39 rfl rfl) rfl (.eq (lk 40 rfl rfl) rfl (.eq (lk 41 rfl rfl) rfl (.eq (lk 42 rfl rfl) rfl (.eq (lk 43 rfl rfl) rfl (.eq (lk 44 rfl rfl) rfl (.eq (lk 48 rfl rfl) rfl (.eq (lk 49 rfl rfl) rfl (.eq (lk 50 rfl rfl) rfl (.eq (lk 51 rfl rfl) rfl .nil)))))))))))))))))))))))))))))))))))))))))) ?_
            refine AWp.ret ?_
            refine blockQ_r ?_
            refine thenQ_r ?_
            refine thenQ_r ?_
            refine blockQ_r ?_
            refine thenQ_r ?_
            refine thenQ_r ?_
            have h := Ok.inrq h h6.ret
            refine endF_wk (Wk.freeze 0 rfl rfl (.same (lk 0 rfl rfl) (.same (lk 1 rfl rfl) (.cons (lk 2 rfl rfl) rfl (.slo (by first | rfl | simp [ev15])) .nil))) (.refl _)) ?_
            obtain rfl := h.ret
            exact endFN rfl (Wk.selS [] .nil rfl (SelE.leaf (lk 2 rfl rfl) rfl (.refl _) (fun m => (ty_S_THold.lt _ _)) (SelE.leaf (lk 1 rfl rfl) rfl (.refl _) (fun m => ((TyOk.int .i64).lt _ _)) (SelE.leaf (lk 0 rfl rfl) rfl (.refl _) (fun m => ((TyOk.int .i64).lt _ _)) .nil))) .nil) (.cons (.tmp (lk 0 rfl rfl) rfl) (.cons (.tmp (lk 1 rfl rfl) rfl) (.cons (.tmp (lk 2 rfl rfl) rfl) .nil))) rfl rfl rfl
        · skip
          refine AWp.skip ?_
          refine blockQ_n ?_
          refine thenQ_n ?_
          refine W.reg [0, 1, 2] rfl ?_
          refine S.sil 28 rfl rfl (fun _ hF => .move (lk 20 rfl rfl)) ?_
          refine S.sil 29 rfl rfl (fun _ hF => .add (lk 0 rfl rfl) cI) ?_
          refine S.sil 11 rfl rfl (fun _ hF => .assign (lk 0 rfl rfl)) ?_
          refine S.nil ?_
          refine thenQ_n ?_
          exact ⟨_, h6.ret, (Wk.selS [] (by decide) rfl (SelE.leaf (lk 0 rfl rfl) rfl (.refl _) (fun m => ((TyOk.int .i64).lt _ _)) (SelE.leaf (lk 24 rfl rfl) rfl (.refl _) (fun m => ((TyOk.int .i64).lt _ _)) (SelE.leaf (lk 25 rfl rfl) rfl (.refl _) (fun m => ((TyOk.int .i64).lt _ _)) (SelE.leaf (lk 26 rfl rfl) rfl (.refl _) (fun m => rfl) (SelE.leaf (lk 27 rfl rfl) rfl (.refl _) (fun m => (lt_sl rfl (ty_THold.ltm _ _))) (SelE.leaf (lk 28 rfl rfl) rfl (.refl _) (fun m => ((TyOk.int .i64).lt _ _)) (SelE.leaf (lk 29 rfl rfl) rfl (.refl _) (fun m => ((TyOk.int .i64).lt _ _)) (SelE.leaf (lk 30 rfl rfl) rfl (.refl _) (fun m => ((TyOk.int .i64).lt _ _)) .nil)))))))) .nil)⟩
      · skip
        refine AWp.exit ?_
        refine thenQ_x ?_
        refine thenQ_x ?_
        refine blockQ_x ?_
        refine thenQ_n ?_
        exact ⟨_, h6.ret, (Wk.selS [] (by decide) rfl (SelE.leaf (lk 5 rfl rfl) rfl (.refl _) (fun m => ((TyOk.int .i64).lt _ _)) (SelE.leaf (lk 6 rfl rfl) rfl (.refl _) (fun m => ((TyOk.int .i64).lt _ _)) (SelE.leaf (lk 7 rfl rfl) rfl (.refl _) (fun m => rfl) .nil))) .nil)⟩
    · skip
      refine thenQ_n ?_
      refine AWp.seq ?_
      refine W.reg [0, 1, 2] rfl ?_
      refine S.sil 8 rfl rfl (fun _ hF => .assign cNs) ?_
      refine S.sil 9 rfl rfl (fun _ hF => .assign cI) ?_
      refine S.sil 10 rfl rfl (fun _ hF => .assign cI) ?_
      refine S.nil ?_
      refine thenQ_n ?_
      refine AWp.ret ?_
      obtain rfl := h.ret
      exact endFN rfl (Wk.selS [] .nil rfl (SelE.leaf (lk 2 rfl rfl) rfl (.nils_no _) (fun m => (ty_S_THold.lt ([] : List THold) _)) (SelE.leaf (lk 1 rfl rfl) rfl (.refl _) (fun m => ((TyOk.int .i64).lt _ _)) (SelE.leaf (lk 0 rfl rfl) rfl (.refl _) (fun m => ((TyOk.int .i64).lt _ _)) .nil))) .nil) (.cons (.tmp (lk 0 rfl rfl) rfl) (.cons (.tmp (lk 1 rfl rfl) rfl) (.cons (.tmp (lk 2 rfl rfl) rfl) .nil))) rfl rfl rfl
theorem C_usufructref06_Expire {a1 : List THold} {a2 : Int} {a3 : Int} {r : (List THold) × Int} (h : usufructref06_Expire a1 a2 a3 = some r) : PureC Pg 25 [.sl 5 .no (List.map E_THold a1), (V.int .i64) a2, (V.int .i64) a3] (.tup [E_S_THold r.1, (V.int .i64) r.2]) := by
  refine PureC.ofF (CallSpec.of_bodyF 56 0 Try.func25 rfl rfl rfl (Nat.le_of_ble_eq_true rfl) ?_) (ltL_c (lt_sl rfl (ty_THold.ltm _ _)) (ltL_c ((TyOk.int .i64).lt _ _) (ltL_c ((TyOk.int .i64).lt _ _) ltL_nil))) (lt_tup (ltL_c (ty_S_THold.lt _ _) (ltL_c ((TyOk.int .i64).lt _ _) ltL_nil)))
  replace h := Ok.of h
  unfold usufructref06_Expire at h
  refine AWp.seq ?_
  refine W.reg [0, 1] rfl ?_
  refine S.sil 6 rfl rfl (fun _ hF => .assign cNs) ?_
  refine S.sil 7 rfl rfl (fun _ hF => .assign cI) ?_
  refine S.nil ?_
  refine thenQ_n ?_
  refine AWp.seq ?_
  refine W.reg [0, 1, 2, 3] rfl ?_
  refine S.sil 11 rfl rfl (fun _ hF => .buildSliceW sli22 zv29 rfl rfl (by decide) .nil) ?_
  refine S.sil 12 rfl rfl (fun _ hF => .move (lk 3 rfl rfl)) ?_
  obtain ⟨l4, m4, h⟩ := h.bnd
  refine S.eff 13 rfl rfl (.nf (v2 := .slo 5 0 [] 0 0 l4.length 1) (H2 := [.buf 5 (List.map E_THold l4)]) (.appNewT sli22 und22 zv29 rfl (by decide) (lk 1 rfl rfl) (V.sub.refl _) (lk 0 rfl rfl) Rd.sl m4 rfl) rfl rfl) trivial ?_
  refine S.sil 8 rfl rfl (fun _ hF => .assign (lk 0 rfl rfl)) ?_
  refine S.nil ?_
  refine thenQ_n ?_
  refine AWp.seq ?_
  refine W.reg [0] rfl ?_
  refine S.sil 9 rfl rfl (fun _ hF => .assign cI) ?_
  refine S.nil ?_
  refine thenQ_n ?_
  refine AWp.seq ?_
  refine AWp.seq ?_
  refine W.reg [0] rfl ?_
  refine S.sil 10 rfl rfl (fun _ hF => .assign cI) ?_
  refine S.nil ?_
  refine thenQ_n ?_
  refine AWp.cutX (fun x7 => ⟨[(9, (V.int .i64) x7.1), (8, .slo 5 0 [] 0 0 x7.2.length 1), (7, (V.int .i64) 0), (6, .nils)], [.buf 5 (List.map E_THold x7.2)]⟩) nc_then h (fun q5 hq5 => ?_) (fun x7 h => ?_)
  · refine AWp.block ?_
    refine AWp.loopT (fun s6 => ⟨[(10, (V.int .i64) s6.1), (9, (V.int .i64) s6.2.1), (8, .slo 5 0 [] 0 0 s6.2.2.length 1), (7, (V.int .i64) 0), (6, .nils), (0, .sl 5 .no (List.map E_THold a1)), (1, (V.int .i64) a2), (2, (V.int .i64) a3)], [.buf 5 (List.map E_THold s6.2.2)]⟩) hq5 (Wk.selS [0] (by decide) rfl (SelE.leaf (lk 0 rfl rfl) rfl (.refl _) (fun m => ((TyOk.int .i64).lt _ _)) (SelE.leaf (lk 1 rfl rfl) rfl (.refl _) (fun m => ((TyOk.int .i64).lt _ _)) (SelE.spec (lk 2 rfl rfl) rfl (.slo (by first | rfl | simp)) rfl rfl (SelE.leaf (lk 6 rfl rfl) rfl (.refl _) (fun m => ((TyOk.int .i64).lt _ _)) (SelE.leaf (lk 7 rfl rfl) rfl (.refl _) (fun m => rfl) (SelE.leaf (lk 8 rfl rfl) rfl (.refl _) (fun m => (lt_sl rfl (ty_THold.ltm _ _))) (SelE.leaf (lk 9 rfl rfl) rfl (.refl _) (fun m => ((TyOk.int .i64).lt _ _)) (SelE.leaf (lk 10 rfl rfl) rfl (.refl _) (fun m => ((TyOk.int .i64).lt _ _)) .nil)))))))) (.cons (lt_buf ty_THold) rfl ⟨rfl, RSubL.leafr ty_THold _ rfl⟩ .nil)) (fun _ s6 h5 => ?_)
    rw [usufructref06_Expire_L1] at h5
    refine AWp.seq ?_
    refine AWp.seq ?_
    refine W.reg [0, 1, 2, 3, 4, 5, 6, 7] rfl ?_
    refine S.sil 14 rfl rfl (fun _ hF => .move (lk 0 rfl rfl)) ?_
    refine S.sil 15 rfl rfl (fun _ hF => .move (lk 6 rfl rfl)) ?_
    refine S.sil 16 rfl rfl (fun _ hF => .lenT sli22 (lk 0 rfl rfl) (vsub rfl (.refl _))) ?_
    refine S.sil 17 rfl rfl (fun _ hF => .lss (lk 2 rfl rfl) (lk 0 rfl rfl)) ?_
    refine S.sil 18 rfl rfl (fun _ hF => .move (lk 0 rfl rfl)) ?_
    refine S.gsil 19 4 18 true rfl rfl rfl (lk 0 rfl rfl) (fun hB _ hF => .move (lk 10 rfl rfl)) ?_
    obtain ⟨r8, m8, h5⟩ := h5.bnd
    refine S.gsil 20 4 18 true rfl rfl rfl (lk 1 rfl rfl) (fun hB _ hF => .callQ ent18 cF (.c (ifT hB (lk 0 rfl rfl)) (V.sub.refl _) .nil) (C_usufructref06_Rights (gd_get m8 hB))) ?_
    refine S.sil 21 rfl rfl (fun _ hF => .pickAnd (lk 2 rfl rfl) (fun h => ifT h (lk 0 rfl rfl)) cB) ?_
    refine S.nil ?_
    refine thenQ_n ?_
    refine AWp.condM (lk 0 rfl rfl) h5 (fun c1 h5 => ?_) (fun c1 h5 => ?_)
    · skip
      refine AWp.skip ?_
      refine thenQ_n ?_
      refine AWp.seq ?_
      refine AWp.block ?_
      refine AWp.seq ?_
      refine W.reg [0, 1, 2, 3, 4, 5, 6, 7, 8, 9, 10, 11, 12, 13, 14, 15, 16, 17, 18, 19, 20, 21, 22, 23] rfl ?_
      refine S.sil 24 rfl rfl (fun _ hF => .move (lk 13 rfl rfl)) ?_
      refine S.sil 25 rfl rfl (fun _ hF => .move (lk 9 rfl rfl)) ?_
      obtain ⟨j9, m9, h5⟩ := h5.bnd
      refine S.sil 26 rfl rfl (fun _ hF => .ixS sli22 (lk 1 rfl rfl) (lk 0 rfl rfl) m9) ?_
      refine S.sil 27 rfl rfl (fun _ hF => .fieldAddrC lay29 rfl rfl (lk 0 rfl rfl) rfl flL_nil) ?_
      refine S.sil 28 rfl rfl (fun _ hF => .loadC sz3 ag3 (lk 0 rfl rfl) rfl rfl) ?_
      refine S.sil 29 rfl rfl (fun _ hF => .move (lk 19 rfl rfl)) ?_
      refine S.sil 30 rfl rfl (fun _ hF => .eql (lk 1 rfl rfl) (lk 0 rfl rfl)) ?_
      refine S.sil 31 rfl rfl (fun _ hF => .move (lk 0 rfl rfl)) ?_
      refine S.gsil 32 7 31 true rfl rfl rfl (lk 0 rfl rfl) (fun hB _ hF => .move (lk 21 rfl rfl)) ?_
      refine S.gsil 33 7 31 true rfl rfl rfl (lk 1 rfl rfl) (fun hB _ hF => .move (lk 17 rfl rfl)) ?_
      obtain ⟨j10, m10, h5⟩ := h5.bnd
      refine S.gsil 34 7 31 true rfl rfl rfl (lk 2 rfl rfl) (fun hB _ hF => .ixS sli22 (ifT hB (lk 1 rfl rfl)) (ifT hB (lk 0 rfl rfl)) (gd_get m10 hB)) ?_
      refine S.gsil 35 7 31 true rfl rfl rfl (lk 3 rfl rfl) (fun hB _ hF => .fieldAddrC lay29 rfl rfl (ifT hB (lk 0 rfl rfl)) rfl (flL_c rfl (flL_c rfl (flL_c rfl (flL_c rfl flL_nil))))) ?_
      refine S.gsil 36 7 31 true rfl rfl rfl (lk 4 rfl rfl) (fun hB _ hF => .loadC sz3 ag3 (ifT hB (lk 0 rfl rfl)) rfl rfl) ?_
      refine S.gsil 37 7 31 true rfl rfl rfl (lk 5 rfl rfl) (fun hB _ hF => .eql (ifT hB (lk 0 rfl rfl)) cI) ?_
      obtain ⟨v11, ev11, h5⟩ := h5.nam
      refine S.sil 38 rfl rfl (fun _ hF => .nv (.pickAnd (lk 6 rfl rfl) (fun h => ifT h (lk 0 rfl rfl)) cB) (congrArg V.bool ev11.symm)) ?_
      refine S.sil 39 rfl rfl (fun _ hF => .move (lk 0 rfl rfl)) ?_
      refine S.gsil 40 15 39 true rfl rfl rfl (lk 0 rfl rfl) (fun hB _ hF => .move (lk 29 rfl rfl)) ?_
      refine S.gsil 41 15 39 true rfl rfl rfl (lk 1 rfl rfl) (fun hB _ hF => .move (lk 25 rfl rfl)) ?_
      obtain ⟨j12, m12, h5⟩ := h5.bnd
      refine S.gsil 42 15 39 true rfl rfl rfl (lk 2 rfl rfl) (fun hB _ hF => .ixS sli22 (ifT hB (lk 1 rfl rfl)) (ifT hB (lk 0 rfl rfl)) (gd_get m12 hB)) ?_
      refine S.gsil 43 15 39 true rfl rfl rfl (lk 3 rfl rfl) (fun hB _ hF => .fieldAddrC lay29 rfl rfl (ifT hB (lk 0 rfl rfl)) rfl (flL_c rfl (flL_c rfl (flL_c rfl flL_nil)))) ?_
      refine S.gsil 44 15 39 true rfl rfl rfl (lk 4 rfl rfl) (fun hB _ hF => .loadC sz3 ag3 (ifT hB (lk 0 rfl rfl)) rfl rfl) ?_
      refine S.gsil 45 15 39 true rfl rfl rfl (lk 5 rfl rfl) (fun hB _ hF => .move (lk 36 rfl rfl)) ?_
      refine S.gsil 46 15 39 true rfl rfl rfl (lk 6 rfl rfl) (fun hB _ hF => .lss (ifT hB (lk 1 rfl rfl)) (ifT hB (lk 0 rfl rfl))) ?_
      refine S.sil 47 rfl rfl (fun _ hF => .pickAnd (lk 7 rfl rfl) (fun h => ifT h (lk 0 rfl rfl)) cB) ?_
      refine S.nil ?_
      refine thenQ_n ?_
      refine AWp.prune (.eq (lk 0 rfl rfl) rfl (.eq (lk 8 rfl rfl) rfl (.eq (lk 9 rfl rfl) rfl (.eq (lk 16 rfl rfl) rfl (.eq (lk 17 rfl rfl) rfl (.eq (lk 18 rfl rfl) rfl (.eq (lk 19 rfl rfl) rfl (.eq (lk 20 rfl rfl) rfl (.eq (lk 21 rfl rfl) rfl (.eq (lk 22 rfl rfl) rfl (.eq (lk 23 rfl rfl) rfl (.eq (lk 24 rfl rfl) rfl (.eq (lk 27 rfl rfl) rfl (.eq (lk 28 rfl rfl) rfl (.eq (lk 29 rfl rfl) rfl (.eq (lk 30 rfl rfl) rfl (.eq (lk 31 rfl rfl) rfl (.eq (lk 32 rfl rfl) rfl (.eq (lk 33 rfl rfl) rfl (.eq (lk 34 rfl rfl) rfl (.eq (lk 35 rfl rfl) rfl (.eq (lk 36 rfl rfl) rfl (.eq (lk 37 rfl rfl) rfl (.eq (lk 38 rfl rfl) rfl (.eq (lk 39 rfl rfl) rfl .nil))))))))))))))))))))))))) ?_
      refine AWp.condM (lk 0 rfl rfl) h5 (fun c2 h5 => ?_) (fun c2 h5 => ?_)
      · skip
        refine AWp.seq ?_
        refine W.reg [0, 1, 2, 3, 4] rfl ?_
        refine S.sil 48 rfl rfl (fun _ hF => .move (lk 19 rfl rfl)) ?_
        refine S.sil 49 rfl rfl (fun _ hF => .move (lk 18 rfl rfl)) ?_
        obtain ⟨j13, m13, h5⟩ := h5.bnd
        refine S.sil 50 rfl rfl (fun _ hF => .ixO sli22 (lk 1 rfl rfl) (lk 0 rfl rfl) (by first | rfl | simp) m13) ?_
        refine S.sil 51 rfl rfl (fun _ hF => .fieldAddr lay29 rfl rfl (lk 0 rfl rfl)) ?_
        obtain ⟨v14, ev14, h5⟩ := h5.nam
        refine S.effN rfl rfl (.nf (H2 := [.buf 5 (List.map E_THold v14)]) (.storeB sz3 (lk 0 rfl rfl) cI rfl (.refl _) rfl (.ls (by have := six_lt m13; simp at this ⊢; omega) (.st rfl (flL_c rfl (flL_c rfl (flL_c rfl (flL_c rfl flL_nil)))) .nil)) (by first | rfl | omega) (.ls ({ (s6.2.2.getD j13 default) with State := 3 }) (by have := six_lt m13; simp at this ⊢; omega) (.st rfl .nil rfl)) rfl rfl (congrArg (fun z => [AObj.buf 5 (List.map E_THold z)]) ev14.symm)) rfl rfl) trivial ?_
        refine S.nil ?_
        refine thenQ_n ?_
        refine W.reg [0, 1, 2] rfl ?_
        refine S.sil 52 rfl rfl (fun _ hF => .move (lk 22 rfl rfl)) ?_
        refine S.sil 53 rfl rfl (fun _ hF => .add (lk 0 rfl rfl) cI) ?_
        refine S.sil 9 rfl rfl (fun _ hF => .assign (lk 0 rfl rfl)) ?_
        refine S.nil ?_
        refine blockQ_n ?_
        refine thenQ_n ?_
        refine W.reg [0, 1, 2] rfl ?_
        refine S.sil 22 rfl rfl (fun _ hF => .move (lk 24 rfl rfl)) ?_
        refine S.sil 23 rfl rfl (fun _ hF => .add (lk 0 rfl rfl) cI) ?_
        refine S.sil 10 rfl rfl (fun _ hF => .assign (lk 0 rfl rfl)) ?_
        refine S.nil ?_
        refine thenQ_n ?_
        exact ⟨_, h5.ret, (Wk.selS [0] (by decide) rfl (SelE.leaf (lk 0 rfl rfl) rfl (.refl _) (fun m => ((TyOk.int .i64).lt _ _)) (SelE.leaf (lk 3 rfl rfl) rfl (.refl _) (fun m => ((TyOk.int .i64).lt _ _)) (SelE.spec (lk 29 rfl rfl) rfl (.slo (by first | rfl | simp [ev14])) rfl rfl (SelE.leaf (lk 30 rfl rfl) rfl (.refl _) (fun m => ((TyOk.int .i64).lt _ _)) (SelE.leaf (lk 31 rfl rfl) rfl (.refl _) (fun m => rfl) (SelE.leaf (lk 32 rfl rfl) rfl (.refl _) (fun m => (lt_sl rfl (ty_THold.ltm _ _))) (SelE.leaf (lk 33 rfl rfl) rfl (.refl _) (fun m => ((TyOk.int .i64).lt _ _)) (SelE.leaf (lk 34 rfl rfl) rfl (.refl _) (fun m => ((TyOk.int .i64).lt _ _)) .nil)))))))) (.cons (lt_buf ty_THold) rfl ⟨rfl, RSubL.leafr ty_THold _ rfl⟩ .nil))⟩
      · skip
        refine AWp.skip ?_
        refine blockQ_n ?_
        refine thenQ_n ?_
        refine W.reg [0, 1, 2] rfl ?_
        refine S.sil 22 rfl rfl (fun _ hF => .move (lk 17 rfl rfl)) ?_
        refine S.sil 23 rfl rfl (fun _ hF => .add (lk 0 rfl rfl) cI) ?_
        refine S.sil 10 rfl rfl (fun _ hF => .assign (lk 0 rfl rfl)) ?_
        refine S.nil ?_
        refine thenQ_n ?_
        exact ⟨_, h5.ret, (Wk.selS [0] (by decide) rfl (SelE.leaf (lk 0 rfl rfl) rfl (.refl _) (fun m => ((TyOk.int .i64).lt _ _)) (SelE.leaf (lk 21 rfl rfl) rfl (.refl _) (fun m => ((TyOk.int .i64).lt _ _)) (SelE.spec (lk 22 rfl rfl) rfl (.slo (by first | rfl | simp)) rfl rfl (SelE.leaf (lk 23 rfl rfl) rfl (.refl _) (fun m => ((TyOk.int .i64).lt _ _)) (SelE.leaf (lk 24 rfl rfl) rfl (.refl _) (fun m => rfl) (SelE.leaf (lk 25 rfl rfl) rfl (.refl _) (fun m => (lt_sl rfl (ty_THold.ltm _ _))) (SelE.leaf (lk 26 rfl rfl) rfl (.refl _) (fun m => ((TyOk.int .i64).lt _ _)) (SelE.leaf (lk 27 rfl rfl) rfl (.refl _) (fun m => ((TyOk.int .i64).lt _ _)) .nil)))))))) (.cons (lt_buf ty_THold) rfl ⟨rfl, RSubL.leafr ty_THold _ rfl⟩ .nil))⟩
    · skip
      refine AWp.exit ?_
      refine thenQ_x ?_
      refine thenQ_x ?_
      refine blockQ_x ?_
      refine thenQ_n ?_
      exact ⟨_, h5.ret, (Wk.selS [0] (by decide) rfl (SelE.leaf (lk 9 rfl rfl) rfl (.refl _) (fun m => ((TyOk.int .i64).lt _ _)) (SelE.spec (lk 10 rfl rfl) rfl (.slo (by first | rfl | simp)) rfl rfl (SelE.leaf (lk 11 rfl rfl) rfl (.refl _) (fun m => ((TyOk.int .i64).lt _ _)) (SelE.leaf (lk 12 rfl rfl) rfl (.refl _) (fun m => rfl) .nil)))) (.cons (lt_buf ty_THold) rfl ⟨rfl, RSubL.leafr ty_THold _ rfl⟩ .nil))⟩
  · skip
    refine thenQ_n ?_
    refine AWp.seq ?_
    refine W.reg [0, 1, 2, 3] rfl ?_
    refine S.sil 54 rfl rfl (fun _ hF => .move (lk 1 rfl rfl)) ?_
    refine S.sil 55 rfl rfl (fun _ hF => .move (lk 1 rfl rfl)) ?_
    refine S.sil 6 rfl rfl (fun _ hF => .assign (lk 1 rfl rfl)) ?_
    refine S.sil 7 rfl rfl (fun _ hF => .assign (lk 1 rfl rfl)) ?_
    refine S.nil ?_
    refine thenQ_n ?_
    refine AWp.ret ?_
    refine endF_wk (Wk.freeze 0 rfl rfl (.same (lk 0 rfl rfl) (.cons (lk 1 rfl rfl) rfl (.slo (by first | rfl | simp)) (.same (lk 0 rfl rfl) (.same (lk 1 rfl rfl) .nil)))) (.refl _)) ?_
    obtain rfl := h.ret
    exact endFN rfl (Wk.selS [] .nil rfl (SelE.leaf (lk 1 rfl rfl) rfl (.refl _) (fun m => (ty_S_THold.lt _ _)) (SelE.leaf (lk 0 rfl rfl) rfl (.refl _) (fun m => ((TyOk.int .i64).lt _ _)) .nil)) .nil) (.cons (.tmp (lk 0 rfl rfl) rfl) (.cons (.tmp (lk 1 rfl rfl) rfl) .nil)) rfl rfl rfl
theorem C_usufructlaw06_HoldDoes {a1 : List THold} {a2 : Int} {a3 : Int} {a4 : Int} {r : Bool} (h : usufructlaw06_HoldDoes a1 a2 a3 a4 = some r) : PureC Pg 5 [.sl 5 .no (List.map E_THold a1), (V.int .i64) a2, (V.int .i64) a3, (V.int .i64) a4] (V.bool r) := by
  refine PureC.ofF (CallSpec.of_bodyF 130 0 Try.func5 rfl rfl rfl (Nat.le_of_ble_eq_true rfl) ?_) (ltL_c (lt_sl rfl (ty_THold.ltm _ _)) (ltL_c ((TyOk.int .i64).lt _ _) (ltL_c ((TyOk.int .i64).lt _ _) (ltL_c ((TyOk.int .i64).lt _ _) ltL_nil)))) (TyOk.bool.lt _ _)
  replace h := Ok.of h
  unfold usufructlaw06_HoldDoes at h
  refine AWp.seq ?_
  refine W.reg [0] rfl ?_
  refine S.sil 8 rfl rfl (fun _ hF => .assign cB) ?_
  refine S.nil ?_
  refine thenQ_n ?_
  refine AWp.seq ?_
  refine AWp.seq ?_
  refine W.reg [0, 1, 2, 3] rfl ?_
  refine S.sil 26 rfl rfl (fun _ hF => .move (lk 1 rfl rfl)) ?_
  refine S.sil 27 rfl rfl (fun _ hF => .buildSliceW sli44 zv22 rfl rfl (by decide) (.cons (lk 0 rfl rfl) rfl (.refl _) rfl .nil)) ?_
  obtain ⟨r5, m5, h⟩ := h.bnd
  refine S.sil 28 rfl rfl (fun _ hF => .callQ ent10 cF (.c (lk 0 rfl rfl) (vsub rfl (.forget _ _ _)) .nil) (C_usufructlaw06_Few m5)) ?_
  refine S.sil 29 rfl rfl (fun _ hF => .not (lk 0 rfl rfl)) ?_
  refine S.nil ?_
  refine thenQ_n ?_
  refine AWp.condM (lk 0 rfl rfl) h (fun c1 h => ?_) (fun c1 h => ?_)
  · skip
    refine AWp.seq ?_
    refine W.reg [0, 1] rfl ?_
    obtain ⟨r6, m6, h⟩ := h.bnd
    refine S.sil 30 rfl rfl (fun _ hF => .callQ ent11 cF .nil (C_usufructlaw06_awake m6)) ?_
    refine S.sil 8 rfl rfl (fun _ hF => .assign (lk 0 rfl rfl)) ?_
    refine S.nil ?_
    refine thenQ_n ?_
    refine AWp.ret ?_
    refine thenQ_r ?_
    obtain rfl := h.ret
    exact endF1 rfl (Wk.selS [] .nil rfl (SelE.leaf (lk 0 rfl rfl) rfl (.refl _) (fun m => (TyOk.bool.lt _ _)) .nil) .nil) (.tmp (lk 0 rfl rfl) rfl) rfl rfl
  · skip
    refine AWp.skip ?_
    refine thenQ_n ?_
    refine AWp.seq ?_
    refine W.reg [0, 1, 2, 3] rfl ?_
    refine S.sil 31 rfl rfl (fun _ hF => .buildSliceW sli22 zv29 rfl rfl (by decide) .nil) ?_
    refine S.sil 32 rfl rfl (fun _ hF => .move (lk 6 rfl rfl)) ?_
    obtain ⟨l7, m7, h⟩ := h.bnd
    refine S.eff 33 rfl rfl (.nf (v2 := .sl 5 (.tok 0) (List.map E_THold l7)) (H2 := [.tail]) (.appX sli22 und22 zv29 rfl (by decide) (lk 1 rfl rfl) (V.sub.refl _) (lk 0 rfl rfl) Rd.sl m7 rfl) rfl rfl) trivial ?_
    refine S.sil 9 rfl rfl (fun _ hF => .assign (lk 0 rfl rfl)) ?_
    refine S.nil ?_
    refine thenQ_n ?_
    refine AWp.seq ?_
    refine W.reg [0, 1, 2, 3, 4, 5, 6, 7, 8, 9, 10, 11] rfl ?_
    refine S.sil 35 rfl rfl (fun _ hF => .move (lk 0 rfl rfl)) ?_
    refine S.sil 36 rfl rfl (fun _ hF => .move (lk 11 rfl rfl)) ?_
    refine S.sil 37 rfl rfl (fun _ hF => .move (lk 13 rfl rfl)) ?_
    refine S.sil 38 rfl rfl (fun _ hF => .move (lk 15 rfl rfl)) ?_
    obtain ⟨r8, m8, h⟩ := h.bnd
    refine S.sil 39 rfl rfl (fun _ hF => .callQ ent21 cF (.c (lk 3 rfl rfl) (vsub rfl (.forget _ _ _)) (.c (lk 2 rfl rfl) (V.sub.refl _) (.c (lk 1 rfl rfl) (V.sub.refl _) (.c (lk 0 rfl rfl) (V.sub.refl _) .nil)))) (C_hold_Reserve m8)) ?_
    refine S.sil 34 rfl rfl (fun _ hF => .move (lk 0 rfl rfl)) ?_
    refine S.sil 40 rfl rfl (fun _ hF => .extract (lk 0 rfl rfl) rfl) ?_
    refine S.sil 41 rfl rfl (fun _ hF => .extract (lk 1 rfl rfl) rfl) ?_
    refine S.sil 42 rfl rfl (fun _ hF => .extract (lk 2 rfl rfl) rfl) ?_
    refine S.sil 10 rfl rfl (fun _ hF => .assign (lk 2 rfl rfl)) ?_
    refine S.sil 11 rfl rfl (fun _ hF => .assign (lk 2 rfl rfl)) ?_
    refine S.sil 12 rfl rfl (fun _ hF => .assign (lk 2 rfl rfl)) ?_
    refine S.nil ?_
    refine thenQ_n ?_
    refine AWp.prune (.eq (lk 0 rfl rfl) rfl (.eq (lk 1 rfl rfl) rfl (.eq (lk 2 rfl rfl) rfl (.eq (lk 12 rfl rfl) rfl (.eq (lk 20 rfl rfl) rfl (.eq (lk 21 rfl rfl) rfl (.eq (lk 22 rfl rfl) rfl (.eq (lk 23 rfl rfl) rfl (.eq (lk 24 rfl rfl) rfl .nil))))))))) ?_
    refine AWp.seq ?_
    refine W.reg [0, 1, 2, 3, 4, 5, 6, 7, 8, 9, 10, 11] rfl ?_
    refine S.sil 44 rfl rfl (fun _ hF => .move (lk 5 rfl rfl)) ?_
    refine S.sil 45 rfl rfl (fun _ hF => .move (lk 7 rfl rfl)) ?_
    refine S.sil 46 rfl rfl (fun _ hF => .move (lk 9 rfl rfl)) ?_
    refine S.sil 47 rfl rfl (fun _ hF => .move (lk 11 rfl rfl)) ?_
    obtain ⟨r9, m9, h⟩ := h.bnd
    refine S.sil 48 rfl rfl (fun _ hF => .callQ ent22 cF (.c (lk 3 rfl rfl) (V.sub.refl _) (.c (lk 2 rfl rfl) (V.sub.refl _) (.c (lk 1 rfl rfl) (V.sub.refl _) (.c (lk 0 rfl rfl) (V.sub.refl _) .nil)))) (C_usufructref06_Reserve m9)) ?_
    refine S.sil 43 rfl rfl (fun _ hF => .move (lk 0 rfl rfl)) ?_
    refine S.sil 49 rfl rfl (fun _ hF => .extract (lk 0 rfl rfl) rfl) ?_
    refine S.sil 50 rfl rfl (fun _ hF => .extract (lk 1 rfl rfl) rfl) ?_
    refine S.sil 51 rfl rfl (fun _ hF => .extract (lk 2 rfl rfl) rfl) ?_
    refine S.sil 13 rfl rfl (fun _ hF => .assign (lk 2 rfl rfl)) ?_
    refine S.sil 14 rfl rfl (fun _ hF => .assign (lk 2 rfl rfl)) ?_
    refine S.sil 15 rfl rfl (fun _ hF => .assign (lk 2 rfl rfl)) ?_
    refine S.nil ?_
    refine thenQ_n ?_
    refine AWp.seq ?_
    refine W.reg [0, 1, 2, 3, 4, 5, 6, 7, 8, 9, 10, 11] rfl ?_
    refine S.sil 53 rfl rfl (fun _ hF => .move (lk 15 rfl rfl)) ?_
    refine S.sil 54 rfl rfl (fun _ hF => .move (lk 19 rfl rfl)) ?_
    refine S.sil 55 rfl rfl (fun _ hF => .move (lk 21 rfl rfl)) ?_
    refine S.sil 56 rfl rfl (fun _ hF => .move (lk 23 rfl rfl)) ?_
    obtain ⟨r10, m10, h⟩ := h.bnd
    refine S.sil 57 rfl rfl (fun _ hF => .callQ ent23 cF (.c (lk 3 rfl rfl) (vsub rfl (.forget _ _ _)) (.c (lk 2 rfl rfl) (V.sub.refl _) (.c (lk 1 rfl rfl) (V.sub.refl _) (.c (lk 0 rfl rfl) (V.sub.refl _) .nil)))) (C_hold_End m10)) ?_
    refine S.sil 52 rfl rfl (fun _ hF => .move (lk 0 rfl rfl)) ?_
    refine S.sil 58 rfl rfl (fun _ hF => .extract (lk 0 rfl rfl) rfl) ?_
    refine S.sil 59 rfl rfl (fun _ hF => .extract (lk 1 rfl rfl) rfl) ?_
    refine S.sil 60 rfl rfl (fun _ hF => .extract (lk 2 rfl rfl) rfl) ?_
    refine S.sil 16 rfl rfl (fun _ hF => .assign (lk 2 rfl rfl)) ?_
    refine S.sil 17 rfl rfl (fun _ hF => .assign (lk 2 rfl rfl)) ?_
    refine S.sil 18 rfl rfl (fun _ hF => .assign (lk 2 rfl rfl)) ?_
    refine S.nil ?_
    refine thenQ_n ?_
    refine AWp.prune (.eq (lk 0 rfl rfl) rfl (.eq (lk 1 rfl rfl) rfl (.eq (lk 2 rfl rfl) rfl (.eq (lk 12 rfl rfl) rfl (.eq (lk 13 rfl rfl) rfl (.eq (lk 14 rfl rfl) rfl (.eq (lk 24 rfl rfl) rfl (.eq (lk 25 rfl rfl) rfl (.eq (lk 26 rfl rfl) rfl (.eq (lk 27 rfl rfl) rfl (.eq (lk 28 rfl rfl) rfl (.eq (lk 29 rfl rfl) rfl (.eq (lk 30 rfl rfl) rfl (.eq (lk 31 rfl rfl) rfl (.eq (lk 32 rfl rfl) rfl .nil))))))))))))))) ?_
    refine AWp.seq ?_
    refine W.reg [0, 1, 2, 3, 4, 5, 6, 7, 8, 9, 10, 11] rfl ?_
    refine S.sil 62 rfl rfl (fun _ hF => .move (lk 11 rfl rfl)) ?_
    refine S.sil 63 rfl rfl (fun _ hF => .move (lk 13 rfl rfl)) ?_
    refine S.sil 64 rfl rfl (fun _ hF => .move (lk 15 rfl rfl)) ?_
    refine S.sil 65 rfl rfl (fun _ hF => .move (lk 17 rfl rfl)) ?_
    obtain ⟨r11, m11, h⟩ := h.bnd
    refine S.sil 66 rfl rfl (fun _ hF => .callQ ent24 cF (.c (lk 3 rfl rfl) (V.sub.refl _) (.c (lk 2 rfl rfl) (V.sub.refl _) (.c (lk 1 rfl rfl) (V.sub.refl _) (.c (lk 0 rfl rfl) (V.sub.refl _) .nil)))) (C_usufructref06_End m11)) ?_
    refine S.sil 61 rfl rfl (fun _ hF => .move (lk 0 rfl rfl)) ?_
    refine S.sil 67 rfl rfl (fun _ hF => .extract (lk 0 rfl rfl) rfl) ?_
    refine S.sil 68 rfl rfl (fun _ hF => .extract (lk 1 rfl rfl) rfl) ?_
    refine S.sil 69 rfl rfl (fun _ hF => .extract (lk 2 rfl rfl) rfl) ?_
    refine S.sil 19 rfl rfl (fun _ hF => .assign (lk 2 rfl rfl)) ?_
    refine S.sil 20 rfl rfl (fun _ hF => .assign (lk 2 rfl rfl)) ?_
    refine S.sil 21 rfl rfl (fun _ hF => .assign (lk 2 rfl rfl)) ?_
    refine S.nil ?_
    refine thenQ_n ?_
    refine AWp.prune (.eq (lk 0 rfl rfl) rfl (.eq (lk 1 rfl rfl) rfl (.eq (lk 2 rfl rfl) rfl (.eq (lk 12 rfl rfl) rfl (.eq (lk 13 rfl rfl) rfl (.eq (lk 14 rfl rfl) rfl (.eq (lk 15 rfl rfl) rfl (.eq (lk 16 rfl rfl) rfl (.eq (lk 17 rfl rfl) rfl (.eq (lk 18 rfl rfl) rfl (.eq (lk 19 rfl rfl) rfl (.eq (lk 20 rfl rfl) rfl (.eq (lk 21 rfl rfl) rfl (.eq (lk 22 rfl rfl) rfl (.eq (lk 23 rfl rfl) rfl (.eq (lk 24 rfl rfl) rfl (.eq (lk 26 rfl rfl) rfl .nil))))))))))))))))) ?_
    refine AWp.seq ?_
    refine W.reg [0, 1, 2, 3, 4, 5, 6, 7, 8] rfl ?_
    refine S.sil 71 rfl rfl (fun _ hF => .move (lk 12 rfl rfl)) ?_
    refine S.sil 72 rfl rfl (fun _ hF => .move (lk 16 rfl rfl)) ?_
    refine S.sil 73 rfl rfl (fun _ hF => .move (lk 18 rfl rfl)) ?_
    obtain ⟨r12, m12, h⟩ := h.bnd
    refine S.sil 74 rfl rfl (fun _ hF => .callQ ent12 cF (.c (lk 2 rfl rfl) (vsub rfl (.forget _ _ _)) (.c (lk 1 rfl rfl) (V.sub.refl _) (.c (lk 0 rfl rfl) (V.sub.refl _) .nil))) (C_hold_Expire m12)) ?_
    refine S.sil 70 rfl rfl (fun _ hF => .move (lk 0 rfl rfl)) ?_
    refine S.sil 75 rfl rfl (fun _ hF => .extract (lk 0 rfl rfl) rfl) ?_
    refine S.sil 76 rfl rfl (fun _ hF => .extract (lk 1 rfl rfl) rfl) ?_
    refine S.sil 22 rfl rfl (fun _ hF => .assign (lk 1 rfl rfl)) ?_
    refine S.sil 23 rfl rfl (fun _ hF => .assign (lk 1 rfl rfl)) ?_
    refine S.nil ?_
    refine thenQ_n ?_
    refine AWp.seq ?_
    refine W.reg [0, 1, 2, 3, 4, 5, 6, 7, 8] rfl ?_
    refine S.sil 78 rfl rfl (fun _ hF => .move (lk 23 rfl rfl)) ?_
    refine S.sil 79 rfl rfl (fun _ hF => .move (lk 25 rfl rfl)) ?_
    refine S.sil 80 rfl rfl (fun _ hF => .move (lk 27 rfl rfl)) ?_
    obtain ⟨r13, m13, h⟩ := h.bnd
    refine S.sil 81 rfl rfl (fun _ hF => .callQ ent25 cF (.c (lk 2 rfl rfl) (V.sub.refl _) (.c (lk 1 rfl rfl) (V.sub.refl _) (.c (lk 0 rfl rfl) (V.sub.refl _) .nil))) (C_usufructref06_Expire m13)) ?_
    refine S.sil 77 rfl rfl (fun _ hF => .move (lk 0 rfl rfl)) ?_
    refine S.sil 82 rfl rfl (fun _ hF => .extract (lk 0 rfl rfl) rfl) ?_
    refine S.sil 83 rfl rfl (fun _ hF => .extract (lk 1 rfl rfl) rfl) ?_
    refine S.sil 24 rfl rfl (fun _ hF => .assign (lk 1 rfl rfl)) ?_
    refine S.sil 25 rfl rfl (fun _ hF => .assign (lk 1 rfl rfl)) ?_
    refine S.nil ?_
    refine thenQ_n ?_
    refine AWp.prune (.eq (lk 0 rfl rfl) rfl (.eq (lk 1 rfl rfl) rfl (.eq (lk 9 rfl rfl) rfl (.eq (lk 10 rfl rfl) rfl (.eq (lk 18 rfl rfl) rfl (.eq (lk 19 rfl rfl) rfl (.eq (lk 20 rfl rfl) rfl (.eq (lk 21 rfl rfl) rfl (.eq (lk 22 rfl rfl) rfl (.eq (lk 23 rfl rfl) rfl (.eq (lk 24 rfl rfl) rfl (.eq (lk 25 rfl rfl) rfl (.eq (lk 26 rfl rfl) rfl (.eq (lk 27 rfl rfl) rfl (.eq (lk 28 rfl rfl) rfl (.eq (lk 29 rfl rfl) rfl (.eq (lk 30 rfl rfl) rfl (.eq (lk 31 rfl rfl) rfl (.eq (lk 32 rfl rfl) rfl .nil))))))))))))))))))) ?_
    refine AWp.seq ?_
    refine W.reg [0, 1, 2, 3, 4, 5, 6, 7, 8, 9, 10, 11, 12, 13, 14, 15, 16, 17, 18, 19, 20, 21, 22, 23, 24, 25, 26, 27, 28, 29, 30, 31, 32, 33, 34, 35, 36, 37, 38, 39, 40, 41, 42, 43, 44, 45, 46] rfl ?_
    refine S.sil 84 rfl rfl (fun _ hF => .move (lk 15 rfl rfl)) ?_
    refine S.sil 85 rfl rfl (fun _ hF => .move (lk 13 rfl rfl)) ?_
    obtain ⟨r14, m14, h⟩ := h.bnd
    refine S.sil 86 rfl rfl (fun _ hF => .callQ ent13 cF (.c (lk 1 rfl rfl) (V.sub.refl _) (.c (lk 0 rfl rfl) (V.sub.refl _) .nil)) (C_usufructlaw06_Same m14)) ?_
    refine S.sil 87 rfl rfl (fun _ hF => .move (lk 0 rfl rfl)) ?_
    refine S.gsil 88 3 87 true rfl rfl rfl (lk 0 rfl rfl) (fun hB _ hF => .move (lk 18 rfl rfl)) ?_
    refine S.gsil 89 3 87 true rfl rfl rfl (lk 1 rfl rfl) (fun hB _ hF => .move (lk 16 rfl rfl)) ?_
    refine S.gsil 90 3 87 true rfl rfl rfl (lk 2 rfl rfl) (fun hB _ hF => .eql (ifT hB (lk 1 rfl rfl)) (ifT hB (lk 0 rfl rfl))) ?_
    refine S.sil 91 rfl rfl (fun _ hF => .pickAnd (lk 3 rfl rfl) (fun h => ifT h (lk 0 rfl rfl)) cB) ?_
    refine S.sil 92 rfl rfl (fun _ hF => .move (lk 0 rfl rfl)) ?_
    refine S.gsil 93 8 92 true rfl rfl rfl (lk 0 rfl rfl) (fun hB _ hF => .move (lk 22 rfl rfl)) ?_
    refine S.gsil 94 8 92 true rfl rfl rfl (lk 1 rfl rfl) (fun hB _ hF => .move (lk 20 rfl rfl)) ?_
    refine S.gsil 95 8 92 true rfl rfl rfl (lk 2 rfl rfl) (fun hB _ hF => .eql (ifT hB (lk 1 rfl rfl)) (ifT hB (lk 0 rfl rfl))) ?_
    refine S.sil 96 rfl rfl (fun _ hF => .pickAnd (lk 3 rfl rfl) (fun h => ifT h (lk 0 rfl rfl)) cB) ?_
    refine S.sil 97 rfl rfl (fun _ hF => .move (lk 0 rfl rfl)) ?_
    refine S.gsil 98 13 97 true rfl rfl rfl (lk 0 rfl rfl) (fun hB _ hF => .move (lk 23 rfl rfl)) ?_
    refine S.gsil 99 13 97 true rfl rfl rfl (lk 1 rfl rfl) (fun hB _ hF => .move (lk 21 rfl rfl)) ?_
    obtain ⟨r15, m15, h⟩ := h.bnd
    refine S.gsil 100 13 97 true rfl rfl rfl (lk 2 rfl rfl) (fun hB _ hF => .callQ ent13 cF (.c (ifT hB (lk 1 rfl rfl)) (V.sub.refl _) (.c (ifT hB (lk 0 rfl rfl)) (V.sub.refl _) .nil)) (C_usufructlaw06_Same (gd_get m15 hB))) ?_
    obtain ⟨v16, ev16, h⟩ := h.nam
    refine S.sil 101 rfl rfl (fun _ hF => .nv (.pickAnd (lk 3 rfl rfl) (fun h => ifT h (lk 0 rfl rfl)) cB) (congrArg V.bool ev16.symm)) ?_
    refine S.sil 102 rfl rfl (fun _ hF => .move (lk 0 rfl rfl)) ?_
    refine S.gsil 103 18 102 true rfl rfl rfl (lk 0 rfl rfl) (fun hB _ hF => .move (lk 27 rfl rfl)) ?_
    refine S.gsil 104 18 102 true rfl rfl rfl (lk 1 rfl rfl) (fun hB _ hF => .move (lk 25 rfl rfl)) ?_
    refine S.gsil 105 18 102 true rfl rfl rfl (lk 2 rfl rfl) (fun hB _ hF => .eql (ifT hB (lk 1 rfl rfl)) (ifT hB (lk 0 rfl rfl))) ?_
    refine S.sil 106 rfl rfl (fun _ hF => .pickAnd (lk 3 rfl rfl) (fun h => ifT h (lk 0 rfl rfl)) cB) ?_
    refine S.sil 107 rfl rfl (fun _ hF => .move (lk 0 rfl rfl)) ?_
    refine S.gsil 108 23 107 true rfl rfl rfl (lk 0 rfl rfl) (fun hB _ hF => .move (lk 31 rfl rfl)) ?_
    refine S.gsil 109 23 107 true rfl rfl rfl (lk 1 rfl rfl) (fun hB _ hF => .move (lk 29 rfl rfl)) ?_
    refine S.gsil 110 23 107 true rfl rfl rfl (lk 2 rfl rfl) (fun hB _ hF => .eql (ifT hB (lk 1 rfl rfl)) (ifT hB (lk 0 rfl rfl))) ?_
    obtain ⟨v17, ev17, h⟩ := h.nam
    refine S.sil 111 rfl rfl (fun _ hF => .nv (.pickAnd (lk 3 rfl rfl) (fun h => ifT h (lk 0 rfl rfl)) cB) (congrArg V.bool ev17.symm)) ?_
    refine S.sil 112 rfl rfl (fun _ hF => .move (lk 0 rfl rfl)) ?_
    refine S.gsil 113 28 112 true rfl rfl rfl (lk 0 rfl rfl) (fun hB _ hF => .move (lk 32 rfl rfl)) ?_
    refine S.gsil 114 28 112 true rfl rfl rfl (lk 1 rfl rfl) (fun hB _ hF => .move (lk 31 rfl rfl)) ?_
    obtain ⟨r18, m18, h⟩ := h.bnd
    refine S.gsil 115 28 112 true rfl rfl rfl (lk 2 rfl rfl) (fun hB _ hF => .callQ ent13 cF (.c (ifT hB (lk 1 rfl rfl)) (V.sub.refl _) (.c (ifT hB (lk 0 rfl rfl)) (V.sub.refl _) .nil)) (C_usufructlaw06_Same (gd_get m18 hB))) ?_
    refine S.sil 116 rfl rfl (fun _ hF => .pickAnd (lk 3 rfl rfl) (fun h => ifT h (lk 0 rfl rfl)) cB) ?_
    refine S.sil 117 rfl rfl (fun _ hF => .move (lk 0 rfl rfl)) ?_
    refine S.gsil 118 33 117 true rfl rfl rfl (lk 0 rfl rfl) (fun hB _ hF => .move (lk 36 rfl rfl)) ?_
    refine S.gsil 119 33 117 true rfl rfl rfl (lk 1 rfl rfl) (fun hB _ hF => .move (lk 35 rfl rfl)) ?_
    refine S.gsil 120 33 117 true rfl rfl rfl (lk 2 rfl rfl) (fun hB _ hF => .eql (ifT hB (lk 1 rfl rfl)) (ifT hB (lk 0 rfl rfl))) ?_
    refine S.sil 121 rfl rfl (fun _ hF => .pickAnd (lk 3 rfl rfl) (fun h => ifT h (lk 0 rfl rfl)) cB) ?_
    refine S.sil 122 rfl rfl (fun _ hF => .move (lk 0 rfl rfl)) ?_
    refine S.gsil 123 38 122 true rfl rfl rfl (lk 0 rfl rfl) (fun hB _ hF => .move (lk 55 rfl rfl)) ?_
    refine S.gsil 124 38 122 true rfl rfl rfl (lk 1 rfl rfl) (fun hB _ hF => .move (lk 58 rfl rfl)) ?_
    obtain ⟨r19, m19, h⟩ := h.bnd
    refine S.gsil 125 38 122 true rfl rfl rfl (lk 2 rfl rfl) (fun hB _ hF => .callQ ent13 cF (.c (ifT hB (lk 1 rfl rfl)) (vsub rfl (.forget _ _ _)) (.c (ifT hB (lk 0 rfl rfl)) (V.sub.refl _) .nil)) (C_usufructlaw06_Same (gd_get m19 hB))) ?_
    refine S.sil 126 rfl rfl (fun _ hF => .pickAnd (lk 3 rfl rfl) (fun h => ifT h (lk 0 rfl rfl)) cB) ?_
    refine S.sil 127 rfl rfl (fun _ hF => .move (lk 0 rfl rfl)) ?_
    obtain ⟨r20, m20, h⟩ := h.bnd
    refine S.gsil 128 43 127 true rfl rfl rfl (lk 0 rfl rfl) (fun hB _ hF => .callQ ent11 cF .nil (C_usufructlaw06_awake (gd_get m20 hB))) ?_
    refine S.sil 129 rfl rfl (fun _ hF => .pickAnd (lk 1 rfl rfl) (fun h => ifT h (lk 0 rfl rfl)) cB) ?_
    obtain ⟨v21, ev21, h⟩ := h.nam
    refine S.sil 8 rfl rfl (fun _ hF => .nv (.assign (lk 0 rfl rfl)) (congrArg V.bool ev21.symm)) ?_
    refine S.nil ?_
    refine thenQ_n ?_
    refine AWp.prune (.eq (lk 0 rfl rfl) rfl .nil) ?_
    refine AWp.ret ?_
    obtain rfl := h.ret
    exact endF1 rfl (Wk.selS [] .nil rfl (SelE.leaf (lk 0 rfl rfl) rfl (.refl _) (fun m => (TyOk.bool.lt _ _)) .nil) .nil) (.tmp (lk 0 rfl rfl) rfl) rfl rfl
theorem C_hold_Join {a1 : List THold} {a2 : List THold} {r : (List THold) × Int} (h : hold_Join a1 a2 = some r) : PureC Pg 26 [.sl 5 .no (List.map E_THold a1), .sl 5 .no (List.map E_THold a2)] (.tup [E_S_THold r.1, (V.int .i64) r.2]) := by
  refine PureC.ofF (CallSpec.of_bodyF 101 0 Try.func26 rfl rfl rfl (Nat.le_of_ble_eq_true rfl) ?_) (ltL_c (lt_sl rfl (ty_THold.ltm _ _)) (ltL_c (lt_sl rfl (ty_THold.ltm _ _)) ltL_nil)) (lt_tup (ltL_c (ty_S_THold.lt _ _) (ltL_c ((TyOk.int .i64).lt _ _) ltL_nil)))
  replace h := Ok.of h
  unfold hold_Join at h
  refine AWp.seq ?_
  refine W.reg [0, 1] rfl ?_
  refine S.sil 4 rfl rfl (fun _ hF => .assign cNs) ?_
  refine S.sil 5 rfl rfl (fun _ hF => .assign cI) ?_
  refine S.nil ?_
  refine thenQ_n ?_
  refine AWp.seq ?_
  refine AWp.seq ?_
  refine W.reg [0, 1, 2, 3, 4, 5, 6, 7] rfl ?_
  refine S.sil 14 rfl rfl (fun _ hF => .move (lk 2 rfl rfl)) ?_
  obtain ⟨r3, m3, h⟩ := h.bnd
  refine S.sil 15 rfl rfl (fun _ hF => .callQ ent17 cF (.c (lk 0 rfl rfl) (V.sub.refl _) .nil) (C_hold_Rights m3)) ?_
  refine S.sil 16 rfl rfl (fun _ hF => .not (lk 0 rfl rfl)) ?_
  refine S.sil 17 rfl rfl (fun _ hF => .move (lk 0 rfl rfl)) ?_
  refine S.gsil 18 3 17 false rfl rfl rfl (lk 0 rfl rfl) (fun hB _ hF => .move (lk 7 rfl rfl)) ?_
  obtain ⟨r4, m4, h⟩ := h.bnd
  refine S.gsil 19 3 17 false rfl rfl rfl (lk 1 rfl rfl) (fun hB _ hF => .callQ ent17 cF (.c (ifT hB (lk 0 rfl rfl)) (V.sub.refl _) .nil) (C_hold_Rights (gd_get m4 hB))) ?_
  refine S.gsil 20 3 17 false rfl rfl rfl (lk 2 rfl rfl) (fun hB _ hF => .not (ifT hB (lk 0 rfl rfl))) ?_
  refine S.sil 21 rfl rfl (fun _ hF => .pickOr (lk 3 rfl rfl) cB (fun h => ifT h (lk 0 rfl rfl))) ?_
  refine S.nil ?_
  refine thenQ_n ?_
  refine AWp.condM (lk 0 rfl rfl) h (fun c1 h => ?_) (fun c1 h => ?_)
  · skip
    refine AWp.seq ?_
    refine W.reg [0, 1] rfl ?_
    refine S.sil 4 rfl rfl (fun _ hF => .assign cNs) ?_
    refine S.sil 5 rfl rfl (fun _ hF => .assign cI) ?_
    refine S.nil ?_
    refine thenQ_n ?_
    refine AWp.prune (.eq (lk 0 rfl rfl) rfl (.eq (lk 1 rfl rfl) rfl (.eq (lk 12 rfl rfl) rfl (.eq (lk 13 rfl rfl) rfl .nil)))) ?_
    refine AWp.ret ?_
    refine thenQ_r ?_
    obtain rfl := h.ret
    exact endFN rfl (Wk.selS [] .nil rfl (SelE.leaf (lk 1 rfl rfl) rfl (.nils_no _) (fun m => (ty_S_THold.lt ([] : List THold) _)) (SelE.leaf (lk 0 rfl rfl) rfl (.refl _) (fun m => ((TyOk.int .i64).lt _ _)) .nil)) .nil) (.cons (.tmp (lk 0 rfl rfl) rfl) (.cons (.tmp (lk 1 rfl rfl) rfl) .nil)) rfl rfl rfl
  · skip
    refine AWp.skip ?_
    refine thenQ_n ?_
    refine AWp.seq ?_
    refine W.reg [0, 1] rfl ?_
    refine S.eff 22 rfl rfl (.nf (v2 := .map 0) (H2 := [.map (encE E_A2_i64 (V.int .i64) (AMap.empty : AMap (Vector Int 2) Int okInts).es)]) (.makeMap) rfl rfl) trivial ?_
    refine S.sil 6 rfl rfl (fun _ hF => .assign (lk 0 rfl rfl)) ?_
    refine S.nil ?_
    refine thenQ_n ?_
    refine AWp.seq ?_
    refine W.reg [0, 1, 2] rfl ?_
    refine S.sil 23 rfl rfl (fun _ hF => .move (lk 12 rfl rfl)) ?_
    obtain ⟨l5, m5, h⟩ := h.bnd
    refine S.eff 24 rfl rfl (.nf (v2 := .slo 5 1 [] 0 0 l5.length 1) (H2 := [.map (encE E_A2_i64 (V.int .i64) (AMap.empty : AMap (Vector Int 2) Int okInts).es), .buf 5 (List.map E_THold l5)]) (.callN ent28 cF [] (C_cloneO_28 m5) .nil .nil (ltL_c (ty_S_THold.lt _ _) ltL_nil) (.c (lk 0 rfl rfl) (vsubr (V.sub.refl _) (ty_S_THold.lt _ 0)) .nil) rfl (mapc (ren_buf ty_THold _) rfl) rfl) rfl rfl) trivial ?_
    refine S.sil 7 rfl rfl (fun _ hF => .assign (lk 0 rfl rfl)) ?_
    refine S.nil ?_
    refine thenQ_n ?_
    refine AWp.prune (.eq (lk 0 rfl rfl) rfl (.eq (lk 3 rfl rfl) rfl (.eq (lk 13 rfl rfl) rfl (.eq (lk 14 rfl rfl) rfl (.eq (lk 15 rfl rfl) rfl (.eq (lk 16 rfl rfl) rfl .nil)))))) ?_
    refine AWp.seq ?_
    refine AWp.seq ?_
    refine W.reg [0, 1, 2] rfl ?_
    refine S.sil 25 rfl rfl (fun _ hF => .move (lk 4 rfl rfl)) ?_
    refine S.sil 26 rfl rfl (fun _ hF => .lenT sli22 (lk 0 rfl rfl) (vsub rfl (.refl _))) ?_
    refine S.sil 27 rfl rfl (fun _ hF => .move cI) ?_
    refine S.nil ?_
    refine thenQ_n ?_
    refine AWp.cutX (fun x8 => ⟨[(7, .slo 5 0 [] 0 0 l5.length 1), (6, .map 1), (5, (V.int .i64) 0), (4, .nils), (1, .sl 5 .no (List.map E_THold a2))], [.buf 5 (List.map E_THold l5), .map (encE E_A2_i64 (V.int .i64) x8.es)]⟩) nc_then h (fun q6 hq6 => ?_) (fun x8 h => ?_)
    · refine AWp.block ?_
      refine AWp.loopT (fun s7 => ⟨[(27, (V.int .i64) s7.1), (26, (V.int .i64) (a1.length : Int)), (25, .sl 5 .no (List.map E_THold a1)), (7, .slo 5 0 [] 0 0 l5.length 1), (6, .map 1), (5, (V.int .i64) 0), (4, .nils), (1, .sl 5 .no (List.map E_THold a2))], [.buf 5 (List.map E_THold l5), .map (encE E_A2_i64 (V.int .i64) s7.2.es)]⟩) hq6 (Wk.selS [1, 0] (by decide) rfl (SelE.leaf (lk 0 rfl rfl) rfl (.refl _) (fun m => ((TyOk.int .i64).lt _ _)) (SelE.leaf (lk 1 rfl rfl) rfl (.refl _) (fun m => ((TyOk.int .i64).lt _ _)) (SelE.leaf (lk 2 rfl rfl) rfl (.refl _) (fun m => (lt_sl rfl (ty_THold.ltm _ _))) (SelE.spec (lk 3 rfl rfl) rfl (.slo (by first | rfl | simp)) rfl rfl (SelE.spec (lk 4 rfl rfl) rfl (.refl _) rfl rfl (SelE.leaf (lk 5 rfl rfl) rfl (.refl _) (fun m => ((TyOk.int .i64).lt _ _)) (SelE.leaf (lk 6 rfl rfl) rfl (.refl _) (fun m => rfl) (SelE.leaf (lk 8 rfl rfl) rfl (.refl _) (fun m => (lt_sl rfl (ty_THold.ltm _ _))) .nil)))))))) (.cons (lt_buf ty_THold) rfl ⟨rfl, RSubL.leafr ty_THold _ rfl⟩ (.cons (lt_map ty_A2_i64 (TyOk.int .i64)) rfl (asub_map ty_A2_i64 (TyOk.int .i64) _) .nil))) (fun _ s7 h6 => ?_)
      rw [hold_Join_L1] at h6
      refine AWp.seq ?_
      refine W.reg [0] rfl ?_
      refine S.sil 28 rfl rfl (fun _ hF => .lss (lk 0 rfl rfl) (lk 1 rfl rfl)) ?_
      refine S.nil ?_
      refine thenQ_n ?_
      refine AWp.seq ?_
      refine AWp.condM (lk 0 rfl rfl) h6 (fun c2 h6 => ?_) (fun c2 h6 => ?_)
      · skip
        refine AWp.skip ?_
        refine thenQ_n ?_
        refine AWp.seq ?_
        refine AWp.block ?_
        refine AWp.seq ?_
        refine W.reg [0, 1, 2, 3, 4, 5] rfl ?_
        refine S.sil 29 rfl rfl (fun _ hF => .move (lk 1 rfl rfl)) ?_
        obtain ⟨j9, m9, h6⟩ := h6.bnd
        refine S.sil 30 rfl rfl (fun _ hF => .ixS sli22 (lk 4 rfl rfl) (lk 2 rfl rfl) m9) ?_
        obtain ⟨v10, ev10, h6⟩ := h6.nam
        refine S.sil 31 rfl rfl (fun _ hF => .nv (.loadC sz29 ag29 (lk 0 rfl rfl) (ty_THold.fl (a1.getD j9 default)) rfl) (congrArg E_THold ev10.symm)) ?_
        refine S.eff 9 rfl rfl (.nf (v2 := .ptr 2 [] 0) (H2 := [.buf 5 (List.map E_THold l5), .map (encE E_A2_i64 (V.int .i64) s7.2.es), .cells (E_THold (default : THold))]) (.alloc zv29) rfl rfl) trivial ?_
        refine S.sil 8 rfl rfl (fun _ hF => .assign (lk 3 rfl rfl)) ?_
        refine S.effN rfl rfl (.nf (H2 := [.buf 5 (List.map E_THold l5), .map (encE E_A2_i64 (V.int .i64) s7.2.es), .cells (E_THold v10)]) (.storeP sz29 (lk 1 rfl rfl) (lk 2 rfl rfl) rfl (.refl _) rfl .nil (by first | rfl | omega) .nil (ty_THold.fl v10) (ty_THold.fl (default : THold)) rfl) rfl rfl) trivial ?_
        refine S.nil ?_
        refine thenQ_n ?_
        refine AWp.wk (Wk.freeze 2 rfl rfl (.same (lk 0 rfl rfl) (.cons (lk 1 rfl rfl) rfl (.ptr .nil (by first | rfl | omega)) (.same (lk 2 rfl rfl) (.same (lk 3 rfl rfl) (.same (lk 4 rfl rfl) (.same (lk 5 rfl rfl) (.same (lk 6 rfl rfl) (.same (lk 7 rfl rfl) (.same (lk 8 rfl rfl) (.same (lk 9 rfl rfl) (.same (lk 10 rfl rfl) (.same (lk 11 rfl rfl) (.same (lk 12 rfl rfl) (.same (lk 13 rfl rfl) .nil)))))))))))))) (.refl _)) ?_
        refine W.reg [0, 1, 2, 3, 4, 5, 6, 7] rfl ?_
        refine S.sil 32 rfl rfl (fun _ hF => .move (lk 10 rfl rfl)) ?_
        refine S.sil 33 rfl rfl (fun _ hF => .fieldAddrC lay29 rfl rfl (lk 2 rfl rfl) rfl flL_nil) ?_
        refine S.sil 34 rfl rfl (fun _ hF => .loadC sz3 ag3 (lk 0 rfl rfl) rfl rfl) ?_
        refine S.sil 35 rfl rfl (fun _ hF => .fieldAddrC lay29 rfl rfl (lk 4 rfl rfl) rfl (flL_c rfl flL_nil)) ?_
        refine S.sil 36 rfl rfl (fun _ hF => .loadC sz3 ag3 (lk 0 rfl rfl) rfl rfl) ?_
        refine S.sil 37 rfl rfl (fun _ hF => .buildArrL (w := E_A2_i64 (#v[v10.Replica, v10.Number] : Vector Int 2)) arr53 zv53 (.cons (lk 2 rfl rfl) rfl rfl rfl (.cons (lk 0 rfl rfl) rfl rfl rfl .nil)) rfl rfl) ?_
        refine S.sil 38 rfl rfl (fun _ hF => .move (lk 6 rfl rfl)) ?_
        obtain ⟨p11, m11, h6⟩ := h6.bnd
        refine S.effN rfl rfl (.nf (H2 := [.buf 5 (List.map E_THold l5), .map (encE E_A2_i64 (V.int .i64) p11.es), .dead]) (.mapPutT und52 key53 kt53 ((TyOk.int .i64).ok) (lk 6 rfl rfl) (lk 1 rfl rfl) (lk 0 rfl rfl) rfl m11 rfl) rfl rfl) trivial ?_
        refine S.nil ?_
        refine blockQ_n ?_
        refine thenQ_n ?_
        refine W.reg [0, 1] rfl ?_
        refine S.sil 39 rfl rfl (fun _ hF => .add (lk 13 rfl rfl) cI) ?_
        refine S.sil 27 rfl rfl (fun _ hF => .move (lk 0 rfl rfl)) ?_
        refine S.nil ?_
        refine thenQ_n ?_
        exact ⟨_, h6.ret, (Wk.selS [0, 1] (by decide) rfl (SelE.leaf (lk 0 rfl rfl) rfl (.refl _) (fun m => ((TyOk.int .i64).lt _ _)) (SelE.leaf (lk 16 rfl rfl) rfl (.refl _) (fun m => ((TyOk.int .i64).lt _ _)) (SelE.leaf (lk 17 rfl rfl) rfl (.refl _) (fun m => (lt_sl rfl (ty_THold.ltm _ _))) (SelE.spec (lk 18 rfl rfl) rfl (.slo (by first | rfl | simp)) rfl rfl (SelE.spec (lk 19 rfl rfl) rfl (.refl _) rfl rfl (SelE.leaf (lk 20 rfl rfl) rfl (.refl _) (fun m => ((TyOk.int .i64).lt _ _)) (SelE.leaf (lk 21 rfl rfl) rfl (.refl _) (fun m => rfl) (SelE.leaf (lk 22 rfl rfl) rfl (.refl _) (fun m => (lt_sl rfl (ty_THold.ltm _ _))) .nil)))))))) (.cons (lt_buf ty_THold) rfl ⟨rfl, RSubL.leafr ty_THold _ rfl⟩ (.cons (lt_map ty_A2_i64 (TyOk.int .i64)) rfl (asub_map ty_A2_i64 (TyOk.int .i64) _) .nil)))⟩
      · skip
        refine AWp.exit ?_
        refine thenQ_x ?_
        refine thenQ_x ?_
        refine blockQ_x ?_
        refine thenQ_n ?_
        exact ⟨_, h6.ret, (Wk.selS [0, 1] (by decide) rfl (SelE.spec (lk 4 rfl rfl) rfl (.slo (by first | rfl | simp)) rfl rfl (SelE.spec (lk 5 rfl rfl) rfl (.refl _) rfl rfl (SelE.leaf (lk 6 rfl rfl) rfl (.refl _) (fun m => ((TyOk.int .i64).lt _ _)) (SelE.leaf (lk 7 rfl rfl) rfl (.refl _) (fun m => rfl) (SelE.leaf (lk 8 rfl rfl) rfl (.refl _) (fun m => (lt_sl rfl (ty_THold.ltm _ _))) .nil))))) (.cons (lt_buf ty_THold) rfl ⟨rfl, RSubL.leafr ty_THold _ rfl⟩ (.cons (lt_map ty_A2_i64 (TyOk.int .i64)) rfl (asub_map ty_A2_i64 (TyOk.int .i64) _) .nil)))⟩
    · skip
      refine thenQ_n ?_
      refine AWp.seq ?_
      refine AWp.seq ?_
      refine W.reg [0, 1, 2] rfl ?_
      refine S.sil 40 rfl rfl (fun _ hF => .move (lk 4 rfl rfl)) ?_
      refine S.sil 41 rfl rfl (fun _ hF => .lenT sli22 (lk 0 rfl rfl) (vsub rfl (.refl _))) ?_
      refine S.sil 42 rfl rfl (fun _ hF => .move cI) ?_
      refine S.nil ?_
      refine thenQ_n ?_
      refine AWp.cutL (fun x14 => ⟨[(7, .slo 5 0 [] 0 0 x14.length 1), (5, (V.int .i64) 0), (4, .nils)], [.buf 5 (List.map E_THold x14)]⟩) nc_then h (fun q12 hq12 h => ?_) (fun x14 h => ?_)
      · refine AWp.block ?_
        refine AWp.loopT (fun s13 => ⟨[(42, (V.int .i64) s13.1), (41, (V.int .i64) (a2.length : Int)), (40, .sl 5 .no (List.map E_THold a2)), (7, .slo 5 0 [] 0 0 s13.2.length 1), (6, .map 1), (5, (V.int .i64) 0), (4, .nils)], [.buf 5 (List.map E_THold s13.2), .map (encE E_A2_i64 (V.int .i64) x8.es)]⟩) hq12 (Wk.selS [0, 1] (by decide) rfl (SelE.leaf (lk 0 rfl rfl) rfl (.refl _) (fun m => ((TyOk.int .i64).lt _ _)) (SelE.leaf (lk 1 rfl rfl) rfl (.refl _) (fun m => ((TyOk.int .i64).lt _ _)) (SelE.leaf (lk 2 rfl rfl) rfl (.refl _) (fun m => (lt_sl rfl (ty_THold.ltm _ _))) (SelE.spec (lk 3 rfl rfl) rfl (.slo (by first | rfl | simp)) rfl rfl (SelE.spec (lk 4 rfl rfl) rfl (.refl _) rfl rfl (SelE.leaf (lk 5 rfl rfl) rfl (.refl _) (fun m => ((TyOk.int .i64).lt _ _)) (SelE.leaf (lk 6 rfl rfl) rfl (.refl _) (fun m => rfl) .nil))))))) (.cons (lt_buf ty_THold) rfl ⟨rfl, RSubL.leafr ty_THold _ rfl⟩ (.cons (lt_map ty_A2_i64 (TyOk.int .i64)) rfl (asub_map ty_A2_i64 (TyOk.int .i64) _) .nil))) (fun _ s13 h12 => ?_)
        rw [hold_Join_L2] at h12
        refine AWp.seq ?_
        refine W.reg [0] rfl ?_
        refine S.sil 43 rfl rfl (fun _ hF => .lss (lk 0 rfl rfl) (lk 1 rfl rfl)) ?_
        refine S.nil ?_
        refine thenQ_n ?_
        refine AWp.seq ?_
        refine AWp.condM (lk 0 rfl rfl) h12 (fun c3 h12 => ?_) (fun c3 h12 => ?_)
        · skip
          refine AWp.skip ?_
          refine thenQ_n ?_
          refine AWp.seq ?_
          refine AWp.block ?_
          refine AWp.seq ?_
          refine W.reg [0, 1, 2, 3] rfl ?_
          obtain ⟨j15, m15, h12⟩ := h12.bnd
          refine S.sil 44 rfl rfl (fun _ hF => .ixS sli22 (lk 3 rfl rfl) (lk 1 rfl rfl) m15) ?_
          obtain ⟨v16, ev16, h12⟩ := h12.nam
          refine S.sil 45 rfl rfl (fun _ hF => .nv (.loadC sz29 ag29 (lk 0 rfl rfl) (ty_THold.fl (a2.getD j15 default)) rfl) (congrArg E_THold ev16.symm)) ?_
          refine S.eff 11 rfl rfl (.nf (v2 := .ptr 2 [] 0) (H2 := [.buf 5 (List.map E_THold s13.2), .map (encE E_A2_i64 (V.int .i64) x8.es), .cells (E_THold (default : THold))]) (.alloc zv29) rfl rfl) trivial ?_
          refine S.effN rfl rfl (.nf (H2 := [.buf 5 (List.map E_THold s13.2), .map (encE E_A2_i64 (V.int .i64) x8.es), .cells (E_THold v16)]) (.storeP sz29 (lk 0 rfl rfl) (lk 1 rfl rfl) rfl (.refl _) rfl .nil (by first | rfl | omega) .nil (ty_THold.fl v16) (ty_THold.fl (default : THold)) rfl) rfl rfl) trivial ?_
          refine S.nil ?_
          refine thenQ_n ?_
          refine AWp.wk (Wk.freeze 2 rfl rfl (.cons (lk 0 rfl rfl) rfl (.ptr .nil (by first | rfl | omega)) (.same (lk 1 rfl rfl) (.same (lk 2 rfl rfl) (.same (lk 3 rfl rfl) (.same (lk 4 rfl rfl) (.same (lk 5 rfl rfl) (.same (lk 6 rfl rfl) (.same (lk 7 rfl rfl) (.same (lk 8 rfl rfl) (.same (lk 9 rfl rfl) (.same (lk 10 rfl rfl) .nil))))))))))) (.refl _)) ?_
          refine AWp.seq ?_
          refine W.reg [0, 1, 2, 3, 4, 5, 6, 7, 8, 9, 10, 11] rfl ?_
          refine S.sil 47 rfl rfl (fun _ hF => .move (lk 8 rfl rfl)) ?_
          refine S.sil 48 rfl rfl (fun _ hF => .fieldAddrC lay29 rfl rfl (lk 1 rfl rfl) rfl flL_nil) ?_
          refine S.sil 49 rfl rfl (fun _ hF => .loadC sz3 ag3 (lk 0 rfl rfl) rfl rfl) ?_
          refine S.sil 50 rfl rfl (fun _ hF => .fieldAddrC lay29 rfl rfl (lk 3 rfl rfl) rfl (flL_c rfl flL_nil)) ?_
          refine S.sil 51 rfl rfl (fun _ hF => .loadC sz3 ag3 (lk 0 rfl rfl) rfl rfl) ?_
          refine S.sil 52 rfl rfl (fun _ hF => .buildArrL (w := E_A2_i64 (#v[v16.Replica, v16.Number] : Vector Int 2)) arr53 zv53 (.cons (lk 2 rfl rfl) rfl rfl rfl (.cons (lk 0 rfl rfl) rfl rfl rfl .nil)) rfl rfl) ?_
          obtain ⟨o17, m17, h12⟩ := h12.bnd
          refine S.qui 53 rfl rfl (fun _ => .mapGetT und52 key53 kt53 ((TyOk.int .i64).ok) zv3 (lk 5 rfl rfl) (lk 0 rfl rfl) rfl m17) ?_
          refine S.sil 46 rfl rfl (fun _ hF => .move (lk 0 rfl rfl)) ?_
          refine S.sil 54 rfl rfl (fun _ hF => .extract (lk 0 rfl rfl) rfl) ?_
          refine S.sil 55 rfl rfl (fun _ hF => .extract (lk 1 rfl rfl) rfl) ?_
          refine S.sil 12 rfl rfl (fun _ hF => .assign (lk 1 rfl rfl)) ?_
          refine S.sil 13 rfl rfl (fun _ hF => .assign (lk 1 rfl rfl)) ?_
          refine S.nil ?_
          refine thenQ_n ?_
          refine AWp.block ?_
          refine AWp.seq ?_
          refine W.reg [0, 1, 2] rfl ?_
          refine S.sil 69 rfl rfl (fun _ hF => .move (lk 0 rfl rfl)) ?_
          refine S.sil 70 rfl rfl (fun _ hF => .not (lk 0 rfl rfl)) ?_
          refine S.sil 68 rfl rfl (fun _ hF => .assign (lk 0 rfl rfl)) ?_
          refine S.nil ?_
          refine thenQ_n ?_
          refine AWp.condM (lk 0 rfl rfl) h12 (fun c4 h12 => ?_) (fun c4 h12 => ?_)
          · skip
            refine W.reg [0, 1, 2, 3, 4] rfl ?_
            refine S.sil 71 rfl rfl (fun _ hF => .move (lk 22 rfl rfl)) ?_
            refine S.sil 72 rfl rfl (fun _ hF => .loadC sz29 ag29 (lk 16 rfl rfl) (ty_THold.fl v16) rfl) ?_
            refine S.sil 73 rfl rfl (fun _ hF => .buildSliceW sli22 zv29 rfl rfl (by decide) (.cons (lk 0 rfl rfl) rfl (.refl _) (ty_THold.fl v16) .nil)) ?_
            obtain ⟨l18, m18, h12⟩ := h12.bnd
            refine S.eff 74 rfl rfl (.nf (v2 := .slo 5 3 [] 0 0 l18.length 1) (H2 := [.dead, .map (encE E_A2_i64 (V.int .i64) x8.es), .dead, .buf 5 (List.map E_THold l18)]) (.appOwnT sli22 und22 zv29 rfl (by decide) (lk 2 rfl rfl) rfl (by first | rfl | simp) (lk 0 rfl rfl) Rd.sl m18 rfl) rfl rfl) trivial ?_
            refine S.sil 7 rfl rfl (fun _ hF => .assign (lk 0 rfl rfl)) ?_
            refine S.nil ?_
            refine blockQ_n ?_
            refine blockQ_n ?_
            refine thenQ_n ?_
            refine W.reg [0, 1] rfl ?_
            refine S.sil 94 rfl rfl (fun _ hF => .add (lk 24 rfl rfl) cI) ?_
            refine S.sil 42 rfl rfl (fun _ hF => .move (lk 0 rfl rfl)) ?_
            refine S.nil ?_
            refine thenQ_n ?_
            exact ⟨_, h12.ret, (Wk.selS [3, 1] (by decide) rfl (SelE.leaf (lk 0 rfl rfl) rfl (.refl _) (fun m => ((TyOk.int .i64).lt _ _)) (SelE.leaf (lk 27 rfl rfl) rfl (.refl _) (fun m => ((TyOk.int .i64).lt _ _)) (SelE.leaf (lk 28 rfl rfl) rfl (.refl _) (fun m => (lt_sl rfl (ty_THold.ltm _ _))) (SelE.spec (lk 2 rfl rfl) rfl (.slo (by first | rfl | simp)) rfl rfl (SelE.spec (lk 30 rfl rfl) rfl (.refl _) rfl rfl (SelE.leaf (lk 31 rfl rfl) rfl (.refl _) (fun m => ((TyOk.int .i64).lt _ _)) (SelE.leaf (lk 32 rfl rfl) rfl (.refl _) (fun m => rfl) .nil))))))) (.cons (lt_buf ty_THold) rfl ⟨rfl, RSubL.leafr ty_THold _ rfl⟩ (.cons (lt_map ty_A2_i64 (TyOk.int .i64)) rfl (asub_map ty_A2_i64 (TyOk.int .i64) _) .nil)))⟩
          · skip
            refine AWp.seq ?_
            refine W.regD [0, 1, 2, 3, 4, 5, 6, 7, 8, 9, 10, 11, 12, 13, 14, 15, 16, 17, 18] mixed ?_
            refine S.sil 76 rfl rfl (fun _ hF => .move (lk 22 rfl rfl)) ?_
            refine S.sil 77 rfl rfl (fun _ hF => .move (lk 5 rfl rfl)) ?_
            obtain ⟨j19, m19, h12⟩ := h12.bnd
            refine S.sil 78 rfl rfl (fun _ hF => .ixO sli22 (lk 1 rfl rfl) (lk 0 rfl rfl) (by first | rfl | simp) m19) ?_
            refine S.sil 79 rfl rfl (fun _ hF => .fieldAddr lay29 rfl rfl (lk 0 rfl rfl)) ?_
            refine S.qui 80 rfl rfl (fun _ => .loadB sz3 ag3 (lk 0 rfl rfl) rfl (.ls (by have := six_lt m19; simp at this ⊢; omega) (.st rfl (flL_c rfl (flL_c rfl flL_nil)) .nil)) (by first | rfl | omega) rfl rfl) ?_
            refine S.sil 81 rfl rfl (fun _ hF => .fieldAddrC lay29 rfl rfl (lk 20 rfl rfl) rfl (flL_c rfl (flL_c rfl flL_nil))) ?_
            refine S.sil 82 rfl rfl (fun _ hF => .loadC sz3 ag3 (lk 0 rfl rfl) rfl rfl) ?_
            refine S.sil 83 rfl rfl (fun _ hF => .neq (lk 2 rfl rfl) (lk 0 rfl rfl)) ?_
            refine S.sil 84 rfl rfl (fun _ hF => .move (lk 0 rfl rfl)) ?_
            refine S.gsil 85 8 84 false rfl rfl rfl (lk 0 rfl rfl) (fun hB _ hF => .move (lk 31 rfl rfl)) ?_
            refine S.gsil 86 8 84 false rfl rfl rfl (lk 1 rfl rfl) (fun hB _ hF => .move (lk 14 rfl rfl)) ?_
            obtain ⟨j20, m20, h12⟩ := h12.bnd
            refine S.gsil 87 8 84 false rfl rfl rfl (lk 2 rfl rfl) (fun hB _ hF => .ixO sli22 (ifT hB (lk 1 rfl rfl)) (ifT hB (lk 0 rfl rfl)) (by first | rfl | simp) (gd_get m20 hB)) ?_
            refine S.gsil 88 8 84 false rfl rfl rfl (lk 3 rfl rfl) (fun hB _ hF => .fieldAddr lay29 rfl rfl (ifT hB (lk 0 rfl rfl))) ?_
            refine S.gqui 89 8 84 false rfl rfl rfl (lk 4 rfl rfl) (fun hB _ => .loadB sz3 ag3 (ifT hB (lk 0 rfl rfl)) rfl (.ls (by have := six_lt (gd_get m20 hB); simp at this ⊢; omega) (.st rfl (flL_c rfl (flL_c rfl (flL_c rfl flL_nil))) .nil)) (by first | rfl | omega) rfl rfl) ?_
            refine S.gsil 90 8 84 false rfl rfl rfl (lk 5 rfl rfl) (fun hB _ hF => .fieldAddrC lay29 rfl rfl (lk 29 rfl rfl) rfl (flL_c rfl (flL_c rfl (flL_c rfl flL_nil)))) ?_
            refine S.gsil 91 8 84 false rfl rfl rfl (lk 6 rfl rfl) (fun hB _ hF => .loadC sz3 ag3 (ifT hB (lk 0 rfl rfl)) rfl rfl) ?_
            refine S.gsil 92 8 84 false rfl rfl rfl (lk 7 rfl rfl) (fun hB _ hF => .neq (ifT hB (lk 2 rfl rfl)) (ifT hB (lk 0 rfl rfl))) ?_
            obtain ⟨v21, ev21, h12⟩ := h12.nam
            refine S.sil 93 rfl rfl (fun _ hF => .nv (.pickOr (lk 8 rfl rfl) cB (fun h => ifT h (lk 0 rfl rfl))) (congrArg V.bool ev21.symm)) ?_
            refine S.sil 75 rfl rfl (fun _ hF => .assign (lk 0 rfl rfl)) ?_
            refine S.nilD (by kernel_rfl) ?_
            refine thenQ_n ?_
            refine AWp.condM (lk 0 rfl rfl) h12 (fun c5 h12 => ?_) (fun c5 h12 => ?_)
            · skip
              refine AWp.seq ?_
              refine W.reg [0, 1] rfl ?_
              refine S.sil 4 rfl rfl (fun _ hF => .assign cNs) ?_
              refine S.sil 5 rfl rfl (fun _ hF => .assign cI) ?_
              refine S.nil ?_
              refine thenQ_n ?_
              refine AWp.prune (.eq (lk 0 rfl rfl) rfl (.eq (lk 1 rfl rfl) rfl (.eq (lk 2 rfl rfl) rfl (.eq (lk 3 rfl rfl) rfl (.eq (lk 12 rfl rfl) rfl (.eq (lk 13 rfl rfl) rfl (.eq (lk 14 rfl rfl) rfl (.eq (lk 15 rfl rfl) rfl (.eq (lk 16 rfl rfl) rfl (.eq (lk 17 rfl rfl) rfl (.eq (lk 18 rfl rfl) rfl (.eq (lk 19 rfl rfl) rfl (.eq (lk 20 rfl rfl) rfl (.eq (lk 21 rfl rfl) rfl (.eq (lk 22 rfl rfl) rfl (.eq (lk 23 rfl rfl) rfl (.eq (lk 24 rfl rfl) rfl (.eq (lk 25 rfl rfl) rfl (.eq (lk 26 rfl rfl) rfl (.eq (lk 27 rfl rfl) rfl (.eq (lk 28 rfl rfl) rfl (.eq (lk 29 rfl rfl) rfl (.eq (lk 30 rfl rfl) rfl (.eq (lk 31 rfl rfl) rfl (.eq (lk 32 rfl rfl) rfl (.eq (lk 33 rfl rfl) rfl (.eq (lk 34 rfl rfl) rfl (.eq (lk 35 rfl rfl) rfl (.eq (lk 36 rfl rfl) rfl (.eq (lk 37 rfl rfl) rfl (.eq (lk 38 rfl rfl) rfl (.eq (lk 39 rfl rfl) rfl (.eq (lk 40 rfl rfl) rfl (.eq (lk 41 rfl rfl) rfl (.eq (lk 42 rfl rfl) rfl (.eq (lk 43 rfl rfl) rfl (.eq (lk 44 rfl rfl) rfl .nil))))))))))))))))))))))))))))))))))))) ?_
              refine AWp.ret ?_
              refine blockQ_r ?_
              refine blockQ_r ?_
              refine thenQ_r ?_
              refine thenQ_r ?_
              refine blockQ_r ?_
              refine thenQ_r ?_
              refine thenQ_r ?_
              have h := Ok.inrq h h12.ret
              obtain rfl := h.ret
              exact endFN rfl (Wk.selS [] .nil rfl (SelE.leaf (lk 1 rfl rfl) rfl (.nils_no _) (fun m => (ty_S_THold.lt ([] : List THold) _)) (SelE.leaf (lk 0 rfl rfl) rfl (.refl _) (fun m => ((TyOk.int .i64).lt _ _)) .nil)) .nil) (.cons (.tmp (lk 0 rfl rfl) rfl) (.cons (.tmp (lk 1 rfl rfl) rfl) .nil)) rfl rfl rfl
            · skip
              refine W.regD [0, 1, 2, 3, 4, 5, 6, 7, 8, 9, 10, 11, 12] mixed ?_
              refine S.sil 56 rfl rfl (fun _ hF => .move (lk 41 rfl rfl)) ?_
              refine S.sil 57 rfl rfl (fun _ hF => .move (lk 24 rfl rfl)) ?_
              refine S.sil 58 rfl rfl (fun _ hF => .move (lk 43 rfl rfl)) ?_
              refine S.sil 59 rfl rfl (fun _ hF => .move (lk 26 rfl rfl)) ?_
              obtain ⟨j22, m22, h12⟩ := h12.bnd
              refine S.sil 60 rfl rfl (fun _ hF => .ixO sli22 (lk 1 rfl rfl) (lk 0 rfl rfl) (by first | rfl | simp) m22) ?_
              refine S.sil 61 rfl rfl (fun _ hF => .fieldAddr lay29 rfl rfl (lk 0 rfl rfl)) ?_
              refine S.qui 62 rfl rfl (fun _ => .loadB sz3 ag3 (lk 0 rfl rfl) rfl (.ls (by have := six_lt m22; simp at this ⊢; omega) (.st rfl (flL_c rfl (flL_c rfl (flL_c rfl (flL_c rfl flL_nil)))) .nil)) (by first | rfl | omega) rfl rfl) ?_
              refine S.sil 63 rfl rfl (fun _ hF => .fieldAddrC lay29 rfl rfl (lk 41 rfl rfl) rfl (flL_c rfl (flL_c rfl (flL_c rfl (flL_c rfl flL_nil))))) ?_
              refine S.sil 64 rfl rfl (fun _ hF => .loadC sz3 ag3 (lk 0 rfl rfl) rfl rfl) ?_
              refine S.sil 65 rfl rfl (fun _ hF => .bmax (lk 2 rfl rfl) (lk 0 rfl rfl)) ?_
              obtain ⟨j23, m23, h12⟩ := h12.bnd
              refine S.sil 66 rfl rfl (fun _ hF => .ixO sli22 (lk 9 rfl rfl) (lk 8 rfl rfl) (by first | rfl | simp) m23) ?_
              refine S.sil 67 rfl rfl (fun _ hF => .fieldAddr lay29 rfl rfl (lk 0 rfl rfl)) ?_
              obtain ⟨v24, ev24, h12⟩ := h12.nam
              refine S.effN rfl rfl (.storeB sz3 (lk 0 rfl rfl) (lk 2 rfl rfl) rfl (.refl _) rfl (.ls (by have := six_lt m23; simp at this ⊢; omega) (.st rfl (flL_c rfl (flL_c rfl (flL_c rfl (flL_c rfl flL_nil)))) .nil)) (by first | rfl | omega) (.ls ({ (s13.2.getD j23 default) with State := (max ((s13.2.getD j22 default).State) v16.State) }) (by have := six_lt m23; simp at this ⊢; omega) (.st rfl .nil rfl)) rfl rfl (congrArg (fun z => [AObj.buf 5 (List.map E_THold z), .map (encE E_A2_i64 (V.int .i64) x8.es), .dead]) ev24.symm)) trivial ?_
              refine S.nilD (by kernel_rfl) ?_
              refine blockQ_n ?_
              refine blockQ_n ?_
              refine thenQ_n ?_
              refine W.reg [0, 1] rfl ?_
              refine S.sil 94 rfl rfl (fun _ hF => .add (lk 50 rfl rfl) cI) ?_
              refine S.sil 42 rfl rfl (fun _ hF => .move (lk 0 rfl rfl)) ?_
              refine S.nil ?_
              refine thenQ_n ?_
              exact ⟨_, h12.ret, (Wk.selS [0, 1] (by decide) rfl (SelE.leaf (lk 0 rfl rfl) rfl (.refl _) (fun m => ((TyOk.int .i64).lt _ _)) (SelE.leaf (lk 53 rfl rfl) rfl (.refl _) (fun m => ((TyOk.int .i64).lt _ _)) (SelE.leaf (lk 54 rfl rfl) rfl (.refl _) (fun m => (lt_sl rfl (ty_THold.ltm _ _))) (SelE.spec (lk 55 rfl rfl) rfl (.slo (by first | rfl | simp [ev24, ev16])) rfl rfl (SelE.spec (lk 56 rfl rfl) rfl (.refl _) rfl rfl (SelE.leaf (lk 57 rfl rfl) rfl (.refl _) (fun m => ((TyOk.int .i64).lt _ _)) (SelE.leaf (lk 58 rfl rfl) rfl (.refl _) (fun m => rfl) .nil))))))) (.cons (lt_buf ty_THold) rfl ⟨rfl, RSubL.leafr ty_THold _ rfl⟩ (.cons (lt_map ty_A2_i64 (TyOk.int .i64)) rfl (asub_map ty_A2_i64 (TyOk.int .i64) _) .nil)))⟩
        · skip
          refine AWp.exit ?_
          refine thenQ_x ?_
          refine thenQ_x ?_
          refine blockQ_x ?_
          refine thenQ_n ?_
          exact ⟨_, h12.ret, (Wk.selS [0] (by decide) rfl (SelE.spec (lk 4 rfl rfl) rfl (.slo (by first | rfl | simp)) rfl rfl (SelE.leaf (lk 6 rfl rfl) rfl (.refl _) (fun m => ((TyOk.int .i64).lt _ _)) (SelE.leaf (lk 7 rfl rfl) rfl (.refl _) (fun m => rfl) .nil))) (.cons (lt_buf ty_THold) rfl ⟨rfl, RSubL.leafr ty_THold _ rfl⟩ .nil))⟩
      · skip
        refine thenQ_n ?_
        refine AWp.seq ?_
        refine AWp.seq ?_
        refine W.reg [0, 1, 2] rfl ?_
        refine S.sil 95 rfl rfl (fun _ hF => .move (lk 0 rfl rfl)) ?_
        refine S.sil 96 rfl rfl (fun _ hF => .lenO sli22 (lk 0 rfl rfl)) ?_
        refine S.sil 97 rfl rfl (fun _ hF => .gtr (lk 0 rfl rfl) cI) ?_
        refine S.nil ?_
        refine thenQ_n ?_
        refine AWp.condM (lk 0 rfl rfl) h (fun c6 h => ?_) (fun c6 h => ?_)
        · skip
          refine AWp.seq ?_
          refine W.reg [0, 1] rfl ?_
          refine S.sil 4 rfl rfl (fun _ hF => .assign cNs) ?_
          refine S.sil 5 rfl rfl (fun _ hF => .assign cI) ?_
          refine S.nil ?_
          refine thenQ_n ?_
          refine AWp.ret ?_
          refine thenQ_r ?_
          obtain rfl := h.ret
          exact endFN rfl (Wk.selS [] .nil rfl (SelE.leaf (lk 1 rfl rfl) rfl (.nils_no _) (fun m => (ty_S_THold.lt ([] : List THold) _)) (SelE.leaf (lk 0 rfl rfl) rfl (.refl _) (fun m => ((TyOk.int .i64).lt _ _)) .nil)) .nil) (.cons (.tmp (lk 0 rfl rfl) rfl) (.cons (.tmp (lk 1 rfl rfl) rfl) .nil)) rfl rfl rfl
        · skip
          refine AWp.skip ?_
          refine thenQ_n ?_
          refine AWp.seq ?_
          refine W.reg [0, 1] rfl ?_
          refine S.sil 98 rfl rfl (fun _ hF => .move (lk 3 rfl rfl)) ?_
          obtain ⟨l25, m25, h⟩ := h.bnd
          refine S.eff 99 rfl rfl (.nf (H2 := [.buf 5 (List.map E_THold l25)]) (.sortFunc (ρ := Go.Proofs.Try.sort35_ren) Go.Proofs.Try.sort35 rfl rfl ag29 sz29 ty_THold holdCmp_swo ent35 ent33 ltL_nil (fun x y => C_hold_compare (hold_compare_eq x y)) cF (lk 0 rfl rfl) cF rfl (by first | rfl | simp) m25 rfl) rfl rfl) trivial ?_
          refine S.nil ?_
          refine thenQ_n ?_
          refine AWp.seq ?_
          refine W.reg [0, 1, 2] rfl ?_
          refine S.sil 100 rfl rfl (fun _ hF => .move (lk 5 rfl rfl)) ?_
          refine S.sil 4 rfl rfl (fun _ hF => .assign (lk 0 rfl rfl)) ?_
          refine S.sil 5 rfl rfl (fun _ hF => .assign cI) ?_
          refine S.nil ?_
          refine thenQ_n ?_
          refine AWp.ret ?_
          refine endF_wk (Wk.freeze 0 rfl rfl (.same (lk 0 rfl rfl) (.cons (lk 1 rfl rfl) rfl (.slo (by first | rfl | simp [(sort_len holdCmp_swo m25)])) (.same (lk 0 rfl rfl) (.same (lk 1 rfl rfl) .nil)))) (.refl _)) ?_
          obtain rfl := h.ret
          exact endFN rfl (Wk.selS [] .nil rfl (SelE.leaf (lk 1 rfl rfl) rfl (.refl _) (fun m => (ty_S_THold.lt _ _)) (SelE.leaf (lk 0 rfl rfl) rfl (.refl _) (fun m => ((TyOk.int .i64).lt _ _)) .nil)) .nil) (.cons (.tmp (lk 0 rfl rfl) rfl) (.cons (.tmp (lk 1 rfl rfl) rfl) .nil)) rfl rfl rfl
theorem C_usufructref06_Put_own {a1 : List THold} {a2 : THold} {r : (List THold)} (h : usufructref06_Put_own a1 a2 = some r) : CallSpec Pg 36 [.sl 5 .no (List.map E_THold a1), E_THold a2] [] fun o H' => o = .ret (.slo 5 0 [] 0 0 r.length 1) ∧ H' = [.buf 5 (List.map E_THold r)] := by
  refine CallSpec.of_bodyF 35 0 Try.func36 rfl rfl rfl (Nat.le_of_ble_eq_true rfl) ?_
  replace h := Ok.of h
  unfold usufructref06_Put_own at h
  refine AWp.seq ?_
  refine W.reg [0, 1] rfl ?_
  refine S.eff 3 rfl rfl (.nf (v2 := .ptr 0 [] 0) (H2 := [.cells (E_THold a2)]) (.box (lk 1 rfl rfl) rfl) rfl rfl) trivial ?_
  refine S.sil 4 rfl rfl (fun _ hF => .assign cNs) ?_
  refine S.nil ?_
  refine thenQ_n ?_
  refine AWp.wk (Wk.freeze 0 rfl rfl (.same (lk 0 rfl rfl) (.cons (lk 1 rfl rfl) rfl (.ptr .nil (by first | rfl | omega)) (.same (lk 2 rfl rfl) .nil))) (.refl _)) ?_
  refine AWp.seq ?_
  refine W.reg [0] rfl ?_
  refine S.sil 5 rfl rfl (fun _ hF => .assign cI) ?_
  refine S.nil ?_
  refine thenQ_n ?_
  refine AWp.seq ?_
  refine AWp.cutX (fun x5 => ⟨[(5, (V.int .i64) x5), (4, .nils), (3, .cptr (E_THold a2)), (0, .sl 5 .no (List.map E_THold a1))], []⟩) nc_then h (fun q3 hq3 => ?_) (fun x5 h => ?_)
  · refine AWp.block ?_
    refine AWp.loopT (fun s4 => ⟨[(5, (V.int .i64) s4), (4, .nils), (3, .cptr (E_THold a2)), (0, .sl 5 .no (List.map E_THold a1))], []⟩) hq3 (Wk.selS [] (by decide) rfl (SelE.leaf (lk 0 rfl rfl) rfl (.refl _) (fun m => ((TyOk.int .i64).lt _ _)) (SelE.leaf (lk 1 rfl rfl) rfl (.refl _) (fun m => rfl) (SelE.leaf (lk 2 rfl rfl) rfl (.refl _) (fun m => (lt_cptr (ty_THold.lt _ _))) (SelE.leaf (lk 3 rfl rfl) rfl (.refl _) (fun m => (lt_sl rfl (ty_THold.ltm _ _))) .nil)))) .nil) (fun _ s4 h3 => ?_)
    rw [usufructref06_Put_own_L1] at h3
    refine AWp.seq ?_
    refine AWp.seq ?_
    refine W.regD [0, 1, 2, 3, 4, 5, 6, 7, 8, 9, 10, 11] mixed ?_
    refine S.sil 7 rfl rfl (fun _ hF => .move (lk 0 rfl rfl)) ?_
    refine S.sil 8 rfl rfl (fun _ hF => .move (lk 4 rfl rfl)) ?_
    refine S.sil 9 rfl rfl (fun _ hF => .lenT sli22 (lk 0 rfl rfl) (vsub rfl (.refl _))) ?_
    refine S.sil 10 rfl rfl (fun _ hF => .lss (lk 2 rfl rfl) (lk 0 rfl rfl)) ?_
    refine S.sil 11 rfl rfl (fun _ hF => .move (lk 0 rfl rfl)) ?_
    refine S.gsil 12 4 11 true rfl rfl rfl (lk 0 rfl rfl) (fun hB _ hF => .move (lk 8 rfl rfl)) ?_
    refine S.gsil 13 4 11 true rfl rfl rfl (lk 1 rfl rfl) (fun hB _ hF => .move (lk 6 rfl rfl)) ?_
    obtain ⟨j6, m6, h3⟩ := h3.bnd
    refine S.gsil 14 4 11 true rfl rfl rfl (lk 2 rfl rfl) (fun hB _ hF => .ixS sli22 (ifT hB (lk 1 rfl rfl)) (ifT hB (lk 0 rfl rfl)) (gd_get m6 hB)) ?_
    refine S.gsil 15 4 11 true rfl rfl rfl (lk 3 rfl rfl) (fun hB _ hF => .loadC sz29 ag29 (ifT hB (lk 0 rfl rfl)) (ty_THold.fl (a1.getD j6 default)) rfl) ?_
    refine S.gsil 16 4 11 true rfl rfl rfl (lk 4 rfl rfl) (fun hB _ hF => .loadC sz29 ag29 (lk 11 rfl rfl) (ty_THold.fl a2) rfl) ?_
    obtain ⟨r7, m7, h3⟩ := h3.bnd
    refine S.gsil 17 4 11 true rfl rfl rfl (lk 5 rfl rfl) (fun hB _ hF => .callQ ent34 cF (.c (ifT hB (lk 1 rfl rfl)) (V.sub.refl _) (.c (ifT hB (lk 0 rfl rfl)) (V.sub.refl _) .nil)) (C_usufructref06_Ahead (gd_get m7 hB))) ?_
    refine S.sil 18 rfl rfl (fun _ hF => .pickAnd (lk 6 rfl rfl) (fun h => ifT h (lk 0 rfl rfl)) cB) ?_
    refine S.nilD (by kernel_rfl) ?_
    refine thenQ_n ?_
    refine AWp.condM (lk 0 rfl rfl) h3 (fun c1 h3 => ?_) (fun c1 h3 => ?_)
    · skip
      refine AWp.skip ?_
      refine thenQ_n ?_
      refine AWp.block ?_
      refine W.reg [0, 1, 2] rfl ?_
      refine S.sil 19 rfl rfl (fun _ hF => .move (lk 12 rfl rfl)) ?_
      refine S.sil 20 rfl rfl (fun _ hF => .add (lk 0 rfl rfl) cI) ?_
      refine S.sil 5 rfl rfl (fun _ hF => .assign (lk 0 rfl rfl)) ?_
      refine S.nil ?_
      refine blockQ_n ?_
      refine thenQ_n ?_
      exact ⟨_, h3.ret, (Wk.selS [] (by decide) rfl (SelE.leaf (lk 0 rfl rfl) rfl (.refl _) (fun m => ((TyOk.int .i64).lt _ _)) (SelE.leaf (lk 16 rfl rfl) rfl (.refl _) (fun m => rfl) (SelE.leaf (lk 17 rfl rfl) rfl (.refl _) (fun m => (lt_cptr (ty_THold.lt _ _))) (SelE.leaf (lk 18 rfl rfl) rfl (.refl _) (fun m => (lt_sl rfl (ty_THold.ltm _ _))) .nil)))) .nil)⟩
    · skip
      refine AWp.exit ?_
      refine thenQ_x ?_
      refine thenQ_x ?_
      refine blockQ_x ?_
      refine thenQ_n ?_
      exact ⟨_, h3.ret, (Wk.selS [] (by decide) rfl (SelE.leaf (lk 12 rfl rfl) rfl (.refl _) (fun m => ((TyOk.int .i64).lt _ _)) (SelE.leaf (lk 13 rfl rfl) rfl (.refl _) (fun m => rfl) (SelE.leaf (lk 14 rfl rfl) rfl (.refl _) (fun m => (lt_cptr (ty_THold.lt _ _))) (SelE.leaf (lk 15 rfl rfl) rfl (.refl _) (fun m => (lt_sl rfl (ty_THold.ltm _ _))) .nil)))) .nil)⟩
  · skip
    refine thenQ_n ?_
    refine AWp.seq ?_
    refine W.reg [0, 1, 2, 3, 4, 5] rfl ?_
    refine S.sil 21 rfl rfl (fun _ hF => .buildSliceW sli22 zv29 rfl rfl (by decide) .nil) ?_
    refine S.sil 22 rfl rfl (fun _ hF => .move (lk 4 rfl rfl)) ?_
    refine S.sil 23 rfl rfl (fun _ hF => .move (lk 2 rfl rfl)) ?_
    obtain ⟨l8, m8, h⟩ := h.bnd
    refine S.sil 24 rfl rfl (fun _ hF => .slice_nsn sli22 (lk 1 rfl rfl) (lk 0 rfl rfl) m8) ?_
    obtain ⟨l9, m9, h⟩ := h.bnd
    refine S.eff 25 rfl rfl (.nf (v2 := .slo 5 0 [] 0 0 l9.length 1) (H2 := [.buf 5 (List.map E_THold l9)]) (.appNewT sli22 und22 zv29 rfl (by decide) (lk 3 rfl rfl) (V.sub.refl _) (lk 0 rfl rfl) Rd.sl m9 rfl) rfl rfl) trivial ?_
    refine S.sil 6 rfl rfl (fun _ hF => .assign (lk 0 rfl rfl)) ?_
    refine S.nil ?_
    refine thenQ_n ?_
    refine AWp.seq ?_
    refine W.reg [0, 1, 2, 3, 4] rfl ?_
    refine S.sil 26 rfl rfl (fun _ hF => .move (lk 0 rfl rfl)) ?_
    refine S.sil 27 rfl rfl (fun _ hF => .loadC sz29 ag29 (lk 9 rfl rfl) (ty_THold.fl a2) rfl) ?_
    refine S.sil 28 rfl rfl (fun _ hF => .buildSliceW sli22 zv29 rfl rfl (by decide) (.cons (lk 0 rfl rfl) rfl (.refl _) (ty_THold.fl a2) .nil)) ?_
    obtain ⟨l10, m10, h⟩ := h.bnd
    refine S.eff 29 rfl rfl (.nf (v2 := .slo 5 1 [] 0 0 l10.length 1) (H2 := [.dead, .buf 5 (List.map E_THold l10)]) (.appOwnT sli22 und22 zv29 rfl (by decide) (lk 2 rfl rfl) rfl (by first | rfl | simp) (lk 0 rfl rfl) Rd.sl m10 rfl) rfl rfl) trivial ?_
    refine S.sil 6 rfl rfl (fun _ hF => .assign (lk 0 rfl rfl)) ?_
    refine S.nil ?_
    refine thenQ_n ?_
    refine AWp.prune (.eq (lk 0 rfl rfl) rfl (.eq (lk 11 rfl rfl) rfl (.eq (lk 12 rfl rfl) rfl (.eq (lk 14 rfl rfl) rfl .nil)))) ?_
    refine AWp.seq ?_
    refine W.reg [0, 1, 2, 3, 4, 5] rfl ?_
    refine S.sil 30 rfl rfl (fun _ hF => .move (lk 0 rfl rfl)) ?_
    refine S.sil 31 rfl rfl (fun _ hF => .move (lk 4 rfl rfl)) ?_
    refine S.sil 32 rfl rfl (fun _ hF => .move (lk 3 rfl rfl)) ?_
    obtain ⟨l11, m11, h⟩ := h.bnd
    refine S.sil 33 rfl rfl (fun _ hF => .slice_snn sli22 (lk 1 rfl rfl) (lk 0 rfl rfl) m11) ?_
    obtain ⟨l12, m12, h⟩ := h.bnd
    refine S.eff 34 rfl rfl (.nf (v2 := .slo 5 2 [] 0 0 l12.length 1) (H2 := [.dead, .dead, .buf 5 (List.map E_THold l12)]) (.appOwnT sli22 und22 zv29 rfl (by decide) (lk 3 rfl rfl) rfl (by first | rfl | simp) (lk 0 rfl rfl) Rd.sl m12 rfl) rfl rfl) trivial ?_
    refine S.sil 4 rfl rfl (fun _ hF => .assign (lk 0 rfl rfl)) ?_
    refine S.nil ?_
    refine thenQ_n ?_
    refine AWp.ret ?_
    obtain rfl := h.ret
    exact endF1 rfl (Wk.selS [2] (by decide) rfl (SelE.spec (v := .slo 5 0 [] 0 0 l12.length 1) (lk 0 rfl rfl) rfl (.slo (by first | rfl | simp)) rfl rfl .nil) (.cons (lt_buf (xs := l12) ty_THold) rfl ⟨rfl, RSubL.leafr ty_THold _ rfl⟩ .nil)) (.tmp (lk 0 rfl rfl) rfl) rfl rfl
theorem C_usufructref06_Join {a1 : List THold} {a2 : List THold} {r : (List THold) × Int} (h : usufructref06_Join a1 a2 = some r) : PureC Pg 27 [.sl 5 .no (List.map E_THold a1), .sl 5 .no (List.map E_THold a2)] (.tup [E_S_THold r.1, (V.int .i64) r.2]) := by
  refine PureC.ofF (CallSpec.of_bodyF 109 0 Try.func27 rfl rfl rfl (Nat.le_of_ble_eq_true rfl) ?_) (ltL_c (lt_sl rfl (ty_THold.ltm _ _)) (ltL_c (lt_sl rfl (ty_THold.ltm _ _)) ltL_nil)) (lt_tup (ltL_c (ty_S_THold.lt _ _) (ltL_c ((TyOk.int .i64).lt _ _) ltL_nil)))
  replace h := Ok.of h
  unfold usufructref06_Join at h
  refine AWp.seq ?_
  refine W.reg [0, 1] rfl ?_
  refine S.sil 4 rfl rfl (fun _ hF => .assign cNs) ?_
  refine S.sil 5 rfl rfl (fun _ hF => .assign cI) ?_
  refine S.nil ?_
  refine thenQ_n ?_
  refine AWp.seq ?_
  refine AWp.seq ?_
  refine W.reg [0, 1, 2, 3, 4, 5, 6, 7] rfl ?_
  refine S.sil 10 rfl rfl (fun _ hF => .move (lk 2 rfl rfl)) ?_
  obtain ⟨r3, m3, h⟩ := h.bnd
  refine S.sil 11 rfl rfl (fun _ hF => .callQ ent18 cF (.c (lk 0 rfl rfl) (V.sub.refl _) .nil) (C_usufructref06_Rights m3)) ?_
  refine S.sil 12 rfl rfl (fun _ hF => .not (lk 0 rfl rfl)) ?_
  refine S.sil 13 rfl rfl (fun _ hF => .move (lk 0 rfl rfl)) ?_
  refine S.gsil 14 3 13 false rfl rfl rfl (lk 0 rfl rfl) (fun hB _ hF => .move (lk 7 rfl rfl)) ?_
  obtain ⟨r4, m4, h⟩ := h.bnd
  refine S.gsil 15 3 13 false rfl rfl rfl (lk 1 rfl rfl) (fun hB _ hF => .callQ ent18 cF (.c (ifT hB (lk 0 rfl rfl)) (V.sub.refl _) .nil) (C_usufructref06_Rights (gd_get m4 hB))) ?_
  refine S.gsil 16 3 13 false rfl rfl rfl (lk 2 rfl rfl) (fun hB _ hF => .not (ifT hB (lk 0 rfl rfl))) ?_
  refine S.sil 17 rfl rfl (fun _ hF => .pickOr (lk 3 rfl rfl) cB (fun h => ifT h (lk 0 rfl rfl))) ?_
  refine S.nil ?_
  refine thenQ_n ?_
  refine AWp.condM (lk 0 rfl rfl) h (fun c1 h => ?_) (fun c1 h => ?_)
  · skip
    refine AWp.seq ?_
    refine W.reg [0, 1] rfl ?_
    refine S.sil 4 rfl rfl (fun _ hF => .assign cNs) ?_
    refine S.sil 5 rfl rfl (fun _ hF => .assign cI) ?_
    refine S.nil ?_
    refine thenQ_n ?_
    refine AWp.prune (.eq (lk 0 rfl rfl) rfl (.eq (lk 1 rfl rfl) rfl (.eq (lk 12 rfl rfl) rfl (.eq (lk 13 rfl rfl) rfl .nil)))) ?_
    refine AWp.ret ?_
    refine thenQ_r ?_
    obtain rfl := h.ret
    exact endFN rfl (Wk.selS [] .nil rfl (SelE.leaf (lk 1 rfl rfl) rfl (.nils_no _) (fun m => (ty_S_THold.lt ([] : List THold) _)) (SelE.leaf (lk 0 rfl rfl) rfl (.refl _) (fun m => ((TyOk.int .i64).lt _ _)) .nil)) .nil) (.cons (.tmp (lk 0 rfl rfl) rfl) (.cons (.tmp (lk 1 rfl rfl) rfl) .nil)) rfl rfl rfl
  · skip
    refine AWp.skip ?_
    refine thenQ_n ?_
    refine AWp.seq ?_
    refine W.reg [0, 1, 2, 3] rfl ?_
    refine S.sil 18 rfl rfl (fun _ hF => .buildSliceW sli22 zv29 rfl rfl (by decide) .nil) ?_
    refine S.sil 19 rfl rfl (fun _ hF => .move (lk 11 rfl rfl)) ?_
    obtain ⟨l5, m5, h⟩ := h.bnd
    refine S.eff 20 rfl rfl (.nf (v2 := .slo 5 0 [] 0 0 l5.length 1) (H2 := [.buf 5 (List.map E_THold l5)]) (.appNewT sli22 und22 zv29 rfl (by decide) (lk 1 rfl rfl) (V.sub.refl _) (lk 0 rfl rfl) Rd.sl m5 rfl) rfl rfl) trivial ?_
    refine S.sil 6 rfl rfl (fun _ hF => .assign (lk 0 rfl rfl)) ?_
    refine S.nil ?_
    refine thenQ_n ?_
    refine AWp.prune (.eq (lk 0 rfl rfl) rfl (.eq (lk 12 rfl rfl) rfl (.eq (lk 13 rfl rfl) rfl (.eq (lk 15 rfl rfl) rfl .nil)))) ?_
    refine AWp.seq ?_
    refine AWp.seq ?_
    refine W.reg [0] rfl ?_
    refine S.sil 7 rfl rfl (fun _ hF => .assign cI) ?_
    refine S.nil ?_
    refine thenQ_n ?_
    refine AWp.cutL (fun x8 => ⟨[(6, .slo 5 0 [] 0 0 x8.length 1), (5, (V.int .i64) 0), (4, .nils)], [.buf 5 (List.map E_THold x8)]⟩) nc_then h (fun q6 hq6 h => ?_) (fun x8 h => ?_)
    · refine AWp.block ?_
      refine AWp.loopT (fun s7 => ⟨[(7, (V.int .i64) s7.1), (6, .slo 5 0 [] 0 0 s7.2.length 1), (5, (V.int .i64) 0), (4, .nils), (1, .sl 5 .no (List.map E_THold a2))], [.buf 5 (List.map E_THold s7.2)]⟩) hq6 (Wk.selS [0] (by decide) rfl (SelE.leaf (lk 0 rfl rfl) rfl (.refl _) (fun m => ((TyOk.int .i64).lt _ _)) (SelE.spec (lk 1 rfl rfl) rfl (.slo (by first | rfl | simp)) rfl rfl (SelE.leaf (lk 2 rfl rfl) rfl (.refl _) (fun m => ((TyOk.int .i64).lt _ _)) (SelE.leaf (lk 3 rfl rfl) rfl (.refl _) (fun m => rfl) (SelE.leaf (lk 4 rfl rfl) rfl (.refl _) (fun m => (lt_sl rfl (ty_THold.ltm _ _))) .nil))))) (.cons (lt_buf ty_THold) rfl ⟨rfl, RSubL.leafr ty_THold _ rfl⟩ .nil)) (fun _ s7 h6 => ?_)
      rw [usufructref06_Join_L1] at h6
      refine AWp.seq ?_
      refine AWp.seq ?_
      refine W.reg [0, 1, 2, 3] rfl ?_
      refine S.sil 21 rfl rfl (fun _ hF => .move (lk 0 rfl rfl)) ?_
      refine S.sil 22 rfl rfl (fun _ hF => .move (lk 5 rfl rfl)) ?_
      refine S.sil 23 rfl rfl (fun _ hF => .lenT sli22 (lk 0 rfl rfl) (vsub rfl (.refl _))) ?_
      refine S.sil 24 rfl rfl (fun _ hF => .lss (lk 2 rfl rfl) (lk 0 rfl rfl)) ?_
      refine S.nil ?_
      refine thenQ_n ?_
      refine AWp.condM (lk 0 rfl rfl) h6 (fun c2 h6 => ?_) (fun c2 h6 => ?_)
      · skip
        refine AWp.skip ?_
        refine thenQ_n ?_
        refine AWp.seq ?_
        refine AWp.block ?_
        refine AWp.seq ?_
        refine W.reg [0] rfl ?_
        refine S.sil 8 rfl rfl (fun _ hF => .assign cI) ?_
        refine S.nil ?_
        refine thenQ_n ?_
        refine AWp.seq ?_
        refine AWp.seq ?_
        refine W.reg [0] rfl ?_
        refine S.sil 9 rfl rfl (fun _ hF => .assign cI) ?_
        refine S.nil ?_
        refine thenQ_n ?_
        refine AWp.cutX (fun x11 => ⟨[(30, V.bool x11.1), (29, (V.int .i64) ((s7.2.length : Nat) : Int)), (28, .slo 5 0 [] 0 0 s7.2.length 1), (27, (V.int .i64) x11.2.1), (9, (V.int .i64) x11.2.2.1), (8, (V.int .i64) x11.2.2.2), (24, V.bool (decide (s7.1 < (a2.length : Int)))), (23, (V.int .i64) (a2.length : Int)), (22, .sl 5 .no (List.map E_THold a2)), (21, (V.int .i64) s7.1), (7, (V.int .i64) s7.1), (6, .slo 5 0 [] 0 0 s7.2.length 1), (5, (V.int .i64) 0), (4, .nils), (1, .sl 5 .no (List.map E_THold a2))], [.buf 5 (List.map E_THold s7.2)]⟩) nc_then h6 (fun q9 hq9 => ?_) (fun x11 h6 => ?_)
        · refine AWp.block ?_
          refine AWp.loopT (fun s10 => ⟨[(9, (V.int .i64) s10.1), (8, (V.int .i64) s10.2), (24, V.bool (decide (s7.1 < (a2.length : Int)))), (23, (V.int .i64) (a2.length : Int)), (22, .sl 5 .no (List.map E_THold a2)), (21, (V.int .i64) s7.1), (7, (V.int .i64) s7.1), (6, .slo 5 0 [] 0 0 s7.2.length 1), (5, (V.int .i64) 0), (4, .nils), (1, .sl 5 .no (List.map E_THold a2))], [.buf 5 (List.map E_THold s7.2)]⟩) hq9 (Wk.selS [0] (by decide) rfl (SelE.leaf (lk 0 rfl rfl) rfl (.refl _) (fun m => ((TyOk.int .i64).lt _ _)) (SelE.leaf (lk 1 rfl rfl) rfl (.refl _) (fun m => ((TyOk.int .i64).lt _ _)) (SelE.leaf (lk 2 rfl rfl) rfl (.refl _) (fun m => (TyOk.bool.lt _ _)) (SelE.leaf (lk 3 rfl rfl) rfl (.refl _) (fun m => ((TyOk.int .i64).lt _ _)) (SelE.leaf (lk 4 rfl rfl) rfl (.refl _) (fun m => (lt_sl rfl (ty_THold.ltm _ _))) (SelE.leaf (lk 5 rfl rfl) rfl (.refl _) (fun m => ((TyOk.int .i64).lt _ _)) (SelE.leaf (lk 6 rfl rfl) rfl (.refl _) (fun m => ((TyOk.int .i64).lt _ _)) (SelE.spec (lk 7 rfl rfl) rfl (.slo (by first | rfl | simp)) rfl rfl (SelE.leaf (lk 8 rfl rfl) rfl (.refl _) (fun m => ((TyOk.int .i64).lt _ _)) (SelE.leaf (lk 9 rfl rfl) rfl (.refl _) (fun m => rfl) (SelE.leaf (lk 10 rfl rfl) rfl (.refl _) (fun m => (lt_sl rfl (ty_THold.ltm _ _))) .nil))))))))))) (.cons (lt_buf ty_THold) rfl ⟨rfl, RSubL.leafr ty_THold _ rfl⟩ .nil)) (fun _ s10 h9 => ?_)
          rw [usufructref06_Join_L2] at h9
          refine AWp.seq ?_
          refine AWp.seq ?_
          refine W.reg [0, 1, 2, 3] rfl ?_
          refine S.sil 27 rfl rfl (fun _ hF => .move (lk 0 rfl rfl)) ?_
          refine S.sil 28 rfl rfl (fun _ hF => .move (lk 8 rfl rfl)) ?_
          refine S.sil 29 rfl rfl (fun _ hF => .lenO sli22 (lk 0 rfl rfl)) ?_
          refine S.sil 30 rfl rfl (fun _ hF => .lss (lk 2 rfl rfl) (lk 0 rfl rfl)) ?_
          refine S.nil ?_
          refine thenQ_n ?_
          refine AWp.condM (lk 0 rfl rfl) h9 (fun c3 h9 => ?_) (fun c3 h9 => ?_)
          · skip
            refine AWp.skip ?_
            refine thenQ_n ?_
            refine AWp.seq ?_
            refine AWp.block ?_
            refine AWp.seq ?_
            refine W.regD [0, 1, 2, 3, 4, 5, 6, 7, 8, 9, 10, 11, 12, 13, 14, 15, 16, 17, 18, 19, 20, 21, 22, 23] mixed ?_
            refine S.sil 33 rfl rfl (fun _ hF => .move (lk 11 rfl rfl)) ?_
            refine S.sil 34 rfl rfl (fun _ hF => .move (lk 5 rfl rfl)) ?_
            obtain ⟨j12, m12, h9⟩ := h9.bnd
            refine S.sil 35 rfl rfl (fun _ hF => .ixO sli22 (lk 1 rfl rfl) (lk 0 rfl rfl) (by first | rfl | simp) m12) ?_
            refine S.sil 36 rfl rfl (fun _ hF => .fieldAddr lay29 rfl rfl (lk 0 rfl rfl)) ?_
            refine S.qui 37 rfl rfl (fun _ => .loadB sz3 ag3 (lk 0 rfl rfl) rfl (.ls (by have := six_lt m12; simp at this ⊢; omega) (.st rfl flL_nil .nil)) (by first | rfl | omega) rfl rfl) ?_
            refine S.sil 38 rfl rfl (fun _ hF => .move (lk 19 rfl rfl)) ?_
            refine S.sil 39 rfl rfl (fun _ hF => .move (lk 16 rfl rfl)) ?_
            obtain ⟨j13, m13, h9⟩ := h9.bnd
            refine S.sil 40 rfl rfl (fun _ hF => .ixS sli22 (lk 1 rfl rfl) (lk 0 rfl rfl) m13) ?_
            refine S.sil 41 rfl rfl (fun _ hF => .fieldAddrC lay29 rfl rfl (lk 0 rfl rfl) rfl flL_nil) ?_
            refine S.sil 42 rfl rfl (fun _ hF => .loadC sz3 ag3 (lk 0 rfl rfl) rfl rfl) ?_
            refine S.sil 43 rfl rfl (fun _ hF => .eql (lk 5 rfl rfl) (lk 0 rfl rfl)) ?_
            refine S.sil 44 rfl rfl (fun _ hF => .move (lk 0 rfl rfl)) ?_
            refine S.gsil 45 11 44 true rfl rfl rfl (lk 0 rfl rfl) (fun hB _ hF => .move (lk 23 rfl rfl)) ?_
            refine S.gsil 46 11 44 true rfl rfl rfl (lk 1 rfl rfl) (fun hB _ hF => .move (lk 17 rfl rfl)) ?_
            obtain ⟨j14, m14, h9⟩ := h9.bnd
            refine S.gsil 47 11 44 true rfl rfl rfl (lk 2 rfl rfl) (fun hB _ hF => .ixO sli22 (ifT hB (lk 1 rfl rfl)) (ifT hB (lk 0 rfl rfl)) (by first | rfl | simp) (gd_get m14 hB)) ?_
            refine S.gsil 48 11 44 true rfl rfl rfl (lk 3 rfl rfl) (fun hB _ hF => .fieldAddr lay29 rfl rfl (ifT hB (lk 0 rfl rfl))) ?_
            refine S.gqui 49 11 44 true rfl rfl rfl (lk 4 rfl rfl) (fun hB _ => .loadB sz3 ag3 (ifT hB (lk 0 rfl rfl)) rfl (.ls (by have := six_lt (gd_get m14 hB); simp at this ⊢; omega) (.st rfl (flL_c rfl flL_nil) .nil)) (by first | rfl | omega) rfl rfl) ?_
            refine S.gsil 50 11 44 true rfl rfl rfl (lk 5 rfl rfl) (fun hB _ hF => .move (lk 31 rfl rfl)) ?_
            refine S.gsil 51 11 44 true rfl rfl rfl (lk 6 rfl rfl) (fun hB _ hF => .move (lk 28 rfl rfl)) ?_
            obtain ⟨j15, m15, h9⟩ := h9.bnd
            refine S.gsil 52 11 44 true rfl rfl rfl (lk 7 rfl rfl) (fun hB _ hF => .ixS sli22 (ifT hB (lk 1 rfl rfl)) (ifT hB (lk 0 rfl rfl)) (gd_get m15 hB)) ?_
            refine S.gsil 53 11 44 true rfl rfl rfl (lk 8 rfl rfl) (fun hB _ hF => .fieldAddrC lay29 rfl rfl (ifT hB (lk 0 rfl rfl)) rfl (flL_c rfl flL_nil)) ?_
            refine S.gsil 54 11 44 true rfl rfl rfl (lk 9 rfl rfl) (fun hB _ hF => .loadC sz3 ag3 (ifT hB (lk 0 rfl rfl)) rfl rfl) ?_
            refine S.gsil 55 11 44 true rfl rfl rfl (lk 10 rfl rfl) (fun hB _ hF => .eql (ifT hB (lk 5 rfl rfl)) (ifT hB (lk 0 rfl rfl))) ?_
            obtain ⟨v16, ev16, h9⟩ := h9.nam
            refine S.sil 56 rfl rfl (fun _ hF => .nv (.pickAnd (lk 11 rfl rfl) (fun h => ifT h (lk 0 rfl rfl)) cB) (congrArg V.bool ev16.symm)) ?_
            refine S.nilD (by kernel_rfl) ?_
            refine thenQ_n ?_
            refine AWp.prune (.eq (lk 0 rfl rfl) rfl (.eq (lk 12 rfl rfl) rfl (.eq (lk 13 rfl rfl) rfl (.eq (lk 14 rfl rfl) rfl (.eq (lk 15 rfl rfl) rfl (.eq (lk 16 rfl rfl) rfl (.eq (lk 17 rfl rfl) rfl (.eq (lk 18 rfl rfl) rfl (.eq (lk 19 rfl rfl) rfl (.eq (lk 20 rfl rfl) rfl (.eq (lk 21 rfl rfl) rfl (.eq (lk 22 rfl rfl) rfl (.eq (lk 23 rfl rfl) rfl (.eq (lk 24 rfl rfl) rfl (.eq (lk 25 rfl rfl) rfl (.eq (lk 26 rfl rfl) rfl (.eq (lk 27 rfl rfl) rfl (.eq (lk 28 rfl rfl) rfl (.eq (lk 29 rfl rfl) rfl (.eq (lk 30 rfl rfl) rfl (.eq (lk 31 rfl rfl) rfl (.eq (lk 32 rfl rfl) rfl (.eq (lk 33 rfl rfl) rfl (.eq (lk 34 rfl rfl) rfl (.eq (lk 35 rfl rfl) rfl (.eq (lk 36 rfl rfl) rfl (.eq (lk 37 rfl rfl) rfl (.eq (lk 38 rfl rfl) rfl .nil)))))))))))))))))))))))))))) ?_
            refine AWp.condM (lk 0 rfl rfl) h9 (fun c4 h9 => ?_) (fun c4 h9 => ?_)
            · skip
              refine W.reg [0, 1] rfl ?_
              refine S.sil 57 rfl rfl (fun _ hF => .move (lk 17 rfl rfl)) ?_
              refine S.sil 8 rfl rfl (fun _ hF => .assign (lk 0 rfl rfl)) ?_
              refine S.nil ?_
              refine blockQ_n ?_
              refine thenQ_n ?_
              refine W.reg [0, 1, 2] rfl ?_
              refine S.sil 31 rfl rfl (fun _ hF => .move (lk 19 rfl rfl)) ?_
              refine S.sil 32 rfl rfl (fun _ hF => .add (lk 0 rfl rfl) cI) ?_
              refine S.sil 9 rfl rfl (fun _ hF => .assign (lk 0 rfl rfl)) ?_
              refine S.nil ?_
              refine thenQ_n ?_
              exact ⟨_, h9.ret, (Wk.selS [0] (by decide) rfl (SelE.leaf (lk 0 rfl rfl) rfl (.refl _) (fun m => ((TyOk.int .i64).lt _ _)) (SelE.leaf (lk 3 rfl rfl) rfl (.refl _) (fun m => ((TyOk.int .i64).lt _ _)) (SelE.leaf (lk 24 rfl rfl) rfl (.refl _) (fun m => (TyOk.bool.lt _ _)) (SelE.leaf (lk 25 rfl rfl) rfl (.refl _) (fun m => ((TyOk.int .i64).lt _ _)) (SelE.leaf (lk 26 rfl rfl) rfl (.refl _) (fun m => (lt_sl rfl (ty_THold.ltm _ _))) (SelE.leaf (lk 27 rfl rfl) rfl (.refl _) (fun m => ((TyOk.int .i64).lt _ _)) (SelE.leaf (lk 28 rfl rfl) rfl (.refl _) (fun m => ((TyOk.int .i64).lt _ _)) (SelE.spec (lk 29 rfl rfl) rfl (.slo (by first | rfl | simp)) rfl rfl (SelE.leaf (lk 30 rfl rfl) rfl (.refl _) (fun m => ((TyOk.int .i64).lt _ _)) (SelE.leaf (lk 31 rfl rfl) rfl (.refl _) (fun m => rfl) (SelE.leaf (lk 32 rfl rfl) rfl (.refl _) (fun m => (lt_sl rfl (ty_THold.ltm _ _))) .nil))))))))))) (.cons (lt_buf ty_THold) rfl ⟨rfl, RSubL.leafr ty_THold _ rfl⟩ .nil))⟩
            · skip
              refine AWp.skip ?_
              refine blockQ_n ?_
              refine thenQ_n ?_
              refine W.reg [0, 1, 2] rfl ?_
              refine S.sil 31 rfl rfl (fun _ hF => .move (lk 17 rfl rfl)) ?_
              refine S.sil 32 rfl rfl (fun _ hF => .add (lk 0 rfl rfl) cI) ?_
              refine S.sil 9 rfl rfl (fun _ hF => .assign (lk 0 rfl rfl)) ?_
              refine S.nil ?_
              refine thenQ_n ?_
              exact ⟨_, h9.ret, (Wk.selS [0] (by decide) rfl (SelE.leaf (lk 0 rfl rfl) rfl (.refl _) (fun m => ((TyOk.int .i64).lt _ _)) (SelE.leaf (lk 21 rfl rfl) rfl (.refl _) (fun m => ((TyOk.int .i64).lt _ _)) (SelE.leaf (lk 22 rfl rfl) rfl (.refl _) (fun m => (TyOk.bool.lt _ _)) (SelE.leaf (lk 23 rfl rfl) rfl (.refl _) (fun m => ((TyOk.int .i64).lt _ _)) (SelE.leaf (lk 24 rfl rfl) rfl (.refl _) (fun m => (lt_sl rfl (ty_THold.ltm _ _))) (SelE.leaf (lk 25 rfl rfl) rfl (.refl _) (fun m => ((TyOk.int .i64).lt _ _)) (SelE.leaf (lk 26 rfl rfl) rfl (.refl _) (fun m => ((TyOk.int .i64).lt _ _)) (SelE.spec (lk 27 rfl rfl) rfl (.slo (by first | rfl | simp)) rfl rfl (SelE.leaf (lk 28 rfl rfl) rfl (.refl _) (fun m => ((TyOk.int .i64).lt _ _)) (SelE.leaf (lk 29 rfl rfl) rfl (.refl _) (fun m => rfl) (SelE.leaf (lk 30 rfl rfl) rfl (.refl _) (fun m => (lt_sl rfl (ty_THold.ltm _ _))) .nil))))))))))) (.cons (lt_buf ty_THold) rfl ⟨rfl, RSubL.leafr ty_THold _ rfl⟩ .nil))⟩
          · skip
            refine AWp.exit ?_
            refine thenQ_x ?_
            refine thenQ_x ?_
            refine blockQ_x ?_
            refine thenQ_n ?_
            exact ⟨_, h9.ret, (Wk.selS [0] (by decide) rfl (SelE.leaf (lk 0 rfl rfl) rfl (.refl _) (fun m => (TyOk.bool.lt _ _)) (SelE.leaf (lk 1 rfl rfl) rfl (.refl _) (fun m => ((TyOk.int .i64).lt _ _)) (SelE.spec (lk 2 rfl rfl) rfl (.slo (by first | rfl | simp)) rfl rfl (SelE.leaf (lk 3 rfl rfl) rfl (.refl _) (fun m => ((TyOk.int .i64).lt _ _)) (SelE.leaf (lk 4 rfl rfl) rfl (.refl _) (fun m => ((TyOk.int .i64).lt _ _)) (SelE.leaf (lk 5 rfl rfl) rfl (.refl _) (fun m => ((TyOk.int .i64).lt _ _)) (SelE.leaf (lk 6 rfl rfl) rfl (.refl _) (fun m => (TyOk.bool.lt _ _)) (SelE.leaf (lk 7 rfl rfl) rfl (.refl _) (fun m => ((TyOk.int .i64).lt _ _)) (SelE.leaf (lk 8 rfl rfl) rfl (.refl _) (fun m => (lt_sl rfl (ty_THold.ltm _ _))) (SelE.leaf (lk 9 rfl rfl) rfl (.refl _) (fun m => ((TyOk.int .i64).lt _ _)) (SelE.leaf (lk 10 rfl rfl) rfl (.refl _) (fun m => ((TyOk.int .i64).lt _ _)) (SelE.spec (lk 11 rfl rfl) rfl (.slo (by first | rfl | simp)) rfl rfl (SelE.leaf (lk 12 rfl rfl) rfl (.refl _) (fun m => ((TyOk.int .i64).lt _ _)) (SelE.leaf (lk 13 rfl rfl) rfl (.refl _) (fun m => rfl) (SelE.leaf (lk 14 rfl rfl) rfl (.refl _) (fun m => (lt_sl rfl (ty_THold.ltm _ _))) .nil))))))))))))))) (.cons (lt_buf ty_THold) rfl ⟨rfl, RSubL.leafr ty_THold _ rfl⟩ .nil))⟩
        · skip
          refine thenQ_n ?_
          refine AWp.seq ?_
          refine AWp.seq ?_
          refine W.reg [0, 1] rfl ?_
          refine S.sil 58 rfl rfl (fun _ hF => .move (lk 5 rfl rfl)) ?_
          refine S.sil 59 rfl rfl (fun _ hF => .lss (lk 0 rfl rfl) cI) ?_
          refine S.nil ?_
          refine thenQ_n ?_
          refine AWp.condM (lk 0 rfl rfl) h6 (fun c5 h6 => ?_) (fun c5 h6 => ?_)
          · skip
            refine AWp.seq ?_
            refine W.reg [0, 1, 2, 3, 4, 5, 6] rfl ?_
            refine S.sil 60 rfl rfl (fun _ hF => .move (lk 13 rfl rfl)) ?_
            refine S.sil 61 rfl rfl (fun _ hF => .move (lk 17 rfl rfl)) ?_
            refine S.sil 62 rfl rfl (fun _ hF => .move (lk 14 rfl rfl)) ?_
            obtain ⟨j17, m17, h6⟩ := h6.bnd
            refine S.sil 63 rfl rfl (fun _ hF => .ixS sli22 (lk 1 rfl rfl) (lk 0 rfl rfl) m17) ?_
            obtain ⟨v18, ev18, h6⟩ := h6.nam
            refine S.sil 64 rfl rfl (fun _ hF => .nv (.loadC sz29 ag29 (lk 0 rfl rfl) (ty_THold.fl (a2.getD j17 default)) rfl) (congrArg E_THold ev18.symm)) ?_
            obtain ⟨r19, m19, h6⟩ := h6.bnd
            refine S.eff 65 rfl rfl (.nf (v2 := .slo 5 1 [] 0 0 r19.length 1) (H2 := [.dead, .buf 5 (List.map E_THold r19)]) (.fz 0 60 rfl rfl (lk 4 rfl rfl) rfl (.slo (by first | rfl | simp)) (.callN ent36 cF [] (C_usufructref06_Put_own m19) .nil .nil (ltL_c (ty_S_THold.lt _ _) (ltL_c (ty_THold.lt _ _) ltL_nil)) (.c (lk 0 rfl rfl) (vsubr (V.sub.refl _) (ty_S_THold.lt _ 0)) (.c (lk 1 rfl rfl) (vsubr (V.sub.refl _) (ty_THold.lt _ 0)) .nil)) rfl (mapc (ren_buf ty_THold _) rfl) rfl)) rfl rfl) trivial ?_
            refine S.sil 6 rfl rfl (fun _ hF => .assign (lk 0 rfl rfl)) ?_
            refine S.nil ?_
            refine thenQ_n ?_
            refine AWp.exit ?_
            refine thenQ_x ?_
            refine blockQ_x ?_
            refine thenQ_n ?_
            refine W.reg [0, 1, 2] rfl ?_
            refine S.sil 25 rfl rfl (fun _ hF => .move (lk 19 rfl rfl)) ?_
            refine S.sil 26 rfl rfl (fun _ hF => .add (lk 0 rfl rfl) cI) ?_
            refine S.sil 7 rfl rfl (fun _ hF => .assign (lk 0 rfl rfl)) ?_
            refine S.nil ?_
            refine thenQ_n ?_
            exact ⟨_, h6.ret, (Wk.selS [1] (by decide) rfl (SelE.leaf (lk 0 rfl rfl) rfl (.refl _) (fun m => ((TyOk.int .i64).lt _ _)) (SelE.spec (lk 3 rfl rfl) rfl (.slo (by first | rfl | simp)) rfl rfl (SelE.leaf (lk 24 rfl rfl) rfl (.refl _) (fun m => ((TyOk.int .i64).lt _ _)) (SelE.leaf (lk 25 rfl rfl) rfl (.refl _) (fun m => rfl) (SelE.leaf (lk 26 rfl rfl) rfl (.refl _) (fun m => (lt_sl rfl (ty_THold.ltm _ _))) .nil))))) (.cons (lt_buf ty_THold) rfl ⟨rfl, RSubL.leafr ty_THold _ rfl⟩ .nil))⟩
          · skip
            refine AWp.skip ?_
            refine thenQ_n ?_
            refine AWp.seq ?_
            refine AWp.seq ?_
            refine W.regD [0, 1, 2, 3, 4, 5, 6, 7, 8, 9, 10, 11, 12, 13, 14, 15, 16, 17, 18, 19, 20, 21, 22, 23] mixed ?_
            refine S.sil 66 rfl rfl (fun _ hF => .move (lk 13 rfl rfl)) ?_
            refine S.sil 67 rfl rfl (fun _ hF => .move (lk 8 rfl rfl)) ?_
            obtain ⟨j20, m20, h6⟩ := h6.bnd
            refine S.sil 68 rfl rfl (fun _ hF => .ixO sli22 (lk 1 rfl rfl) (lk 0 rfl rfl) (by first | rfl | simp) m20) ?_
            refine S.sil 69 rfl rfl (fun _ hF => .fieldAddr lay29 rfl rfl (lk 0 rfl rfl)) ?_
            refine S.qui 70 rfl rfl (fun _ => .loadB sz3 ag3 (lk 0 rfl rfl) rfl (.ls (by have := six_lt m20; simp at this ⊢; omega) (.st rfl (flL_c rfl (flL_c rfl flL_nil)) .nil)) (by first | rfl | omega) rfl rfl) ?_
            refine S.sil 71 rfl rfl (fun _ hF => .move (lk 21 rfl rfl)) ?_
            refine S.sil 72 rfl rfl (fun _ hF => .move (lk 18 rfl rfl)) ?_
            obtain ⟨j21, m21, h6⟩ := h6.bnd
            refine S.sil 73 rfl rfl (fun _ hF => .ixS sli22 (lk 1 rfl rfl) (lk 0 rfl rfl) m21) ?_
            refine S.sil 74 rfl rfl (fun _ hF => .fieldAddrC lay29 rfl rfl (lk 0 rfl rfl) rfl (flL_c rfl (flL_c rfl flL_nil))) ?_
            refine S.sil 75 rfl rfl (fun _ hF => .loadC sz3 ag3 (lk 0 rfl rfl) rfl rfl) ?_
            refine S.sil 76 rfl rfl (fun _ hF => .neq (lk 5 rfl rfl) (lk 0 rfl rfl)) ?_
            refine S.sil 77 rfl rfl (fun _ hF => .move (lk 0 rfl rfl)) ?_
            refine S.gsil 78 11 77 false rfl rfl rfl (lk 0 rfl rfl) (fun hB _ hF => .move (lk 25 rfl rfl)) ?_
            refine S.gsil 79 11 77 false rfl rfl rfl (lk 1 rfl rfl) (fun hB _ hF => .move (lk 20 rfl rfl)) ?_
            obtain ⟨j22, m22, h6⟩ := h6.bnd
            refine S.gsil 80 11 77 false rfl rfl rfl (lk 2 rfl rfl) (fun hB _ hF => .ixO sli22 (ifT hB (lk 1 rfl rfl)) (ifT hB (lk 0 rfl rfl)) (by first | rfl | simp) (gd_get m22 hB)) ?_
            refine S.gsil 81 11 77 false rfl rfl rfl (lk 3 rfl rfl) (fun hB _ hF => .fieldAddr lay29 rfl rfl (ifT hB (lk 0 rfl rfl))) ?_
            refine S.gqui 82 11 77 false rfl rfl rfl (lk 4 rfl rfl) (fun hB _ => .loadB sz3 ag3 (ifT hB (lk 0 rfl rfl)) rfl (.ls (by have := six_lt (gd_get m22 hB); simp at this ⊢; omega) (.st rfl (flL_c rfl (flL_c rfl (flL_c rfl flL_nil))) .nil)) (by first | rfl | omega) rfl rfl) ?_
            refine S.gsil 83 11 77 false rfl rfl rfl (lk 5 rfl rfl) (fun hB _ hF => .move (lk 33 rfl rfl)) ?_
            refine S.gsil 84 11 77 false rfl rfl rfl (lk 6 rfl rfl) (fun hB _ hF => .move (lk 30 rfl rfl)) ?_
            obtain ⟨j23, m23, h6⟩ := h6.bnd
            refine S.gsil 85 11 77 false rfl rfl rfl (lk 7 rfl rfl) (fun hB _ hF => .ixS sli22 (ifT hB (lk 1 rfl rfl)) (ifT hB (lk 0 rfl rfl)) (gd_get m23 hB)) ?_
            refine S.gsil 86 11 77 false rfl rfl rfl (lk 8 rfl rfl) (fun hB _ hF => .fieldAddrC lay29 rfl rfl (ifT hB (lk 0 rfl rfl)) rfl (flL_c rfl (flL_c rfl (flL_c rfl flL_nil)))) ?_
            refine S.gsil 87 11 77 false rfl rfl rfl (lk 9 rfl rfl) (fun hB _ hF => .loadC sz3 ag3 (ifT hB (lk 0 rfl rfl)) rfl rfl) ?_
            refine S.gsil 88 11 77 false rfl rfl rfl (lk 10 rfl rfl) (fun hB _ hF => .neq (ifT hB (lk 5 rfl rfl)) (ifT hB (lk 0 rfl rfl))) ?_
            obtain ⟨v24, ev24, h6⟩ := h6.nam
            refine S.sil 89 rfl rfl (fun _ hF => .nv (.pickOr (lk 11 rfl rfl) cB (fun h => ifT h (lk 0 rfl rfl))) (congrArg V.bool ev24.symm)) ?_
            refine S.nilD (by kernel_rfl) ?_
            refine thenQ_n ?_
            refine AWp.prune (.eq (lk 0 rfl rfl) rfl (.eq (lk 12 rfl rfl) rfl (.eq (lk 13 rfl rfl) rfl (.eq (lk 14 rfl rfl) rfl (.eq (lk 15 rfl rfl) rfl (.eq (lk 16 rfl rfl) rfl (.eq (lk 17 rfl rfl) rfl (.eq (lk 18 rfl rfl) rfl (.eq (lk 19 rfl rfl) rfl (.eq (lk 20 rfl rfl) rfl (.eq (lk 21 rfl rfl) rfl (.eq (lk 22 rfl rfl) rfl (.eq (lk 23 rfl rfl) rfl (.eq (lk 24 rfl rfl) rfl (.eq (lk 25 rfl rfl) rfl (.eq (lk 26 rfl rfl) rfl (.eq (lk 27 rfl rfl) rfl (.eq (lk 28 rfl rfl) rfl (.eq (lk 29 rfl rfl) rfl (.eq (lk 30 rfl rfl) rfl (.eq (lk 31 rfl rfl) rfl (.eq (lk 32 rfl rfl) rfl (.eq (lk 33 rfl rfl) rfl (.eq (lk 34 rfl rfl) rfl (.eq (lk 35 rfl rfl) rfl (.eq (lk 36 rfl rfl) rfl (.eq (lk 37 rfl rfl) rfl (.eq (lk 38 rfl rfl) rfl (.eq (lk 39 rfl rfl) rfl (.eq (lk 40 rfl rfl) rfl .nil)))))))))))))))))))))))))))))) ?_
            refine AWp.condM (lk 0 rfl rfl) h6 (fun c6 h6 => ?_) (fun c6 h6 => ?_)
            · skip
              refine AWp.seq ?_
              refine W.reg [0, 1] rfl ?_
              refine S.sil 4 rfl rfl (fun _ hF => .assign cNs) ?_
              refine S.sil 5 rfl rfl (fun _ hF => .assign cI) ?_
              refine S.nil ?_
              refine thenQ_n ?_
              refine AWp.ret ?_
              refine thenQ_r ?_
              refine blockQ_r ?_
              refine thenQ_r ?_
              refine thenQ_r ?_
              refine blockQ_r ?_
              refine thenQ_r ?_
              refine thenQ_r ?_
              have h := Ok.inrq h h6.ret
              obtain rfl := h.ret
              exact endFN rfl (Wk.selS [] .nil rfl (SelE.leaf (lk 1 rfl rfl) rfl (.nils_no _) (fun m => (ty_S_THold.lt ([] : List THold) _)) (SelE.leaf (lk 0 rfl rfl) rfl (.refl _) (fun m => ((TyOk.int .i64).lt _ _)) .nil)) .nil) (.cons (.tmp (lk 0 rfl rfl) rfl) (.cons (.tmp (lk 1 rfl rfl) rfl) .nil)) rfl rfl rfl
            · skip
              refine AWp.skip ?_
              refine thenQ_n ?_
              refine W.regD [0, 1, 2, 3, 4, 5, 6, 7, 8, 9, 10, 11, 12, 13, 14, 15] mixed ?_
              refine S.sil 90 rfl rfl (fun _ hF => .move (lk 26 rfl rfl)) ?_
              refine S.sil 91 rfl rfl (fun _ hF => .move (lk 21 rfl rfl)) ?_
              refine S.sil 92 rfl rfl (fun _ hF => .move (lk 28 rfl rfl)) ?_
              refine S.sil 93 rfl rfl (fun _ hF => .move (lk 23 rfl rfl)) ?_
              obtain ⟨j25, m25, h6⟩ := h6.bnd
              refine S.sil 94 rfl rfl (fun _ hF => .ixO sli22 (lk 1 rfl rfl) (lk 0 rfl rfl) (by first | rfl | simp) m25) ?_
              refine S.sil 95 rfl rfl (fun _ hF => .fieldAddr lay29 rfl rfl (lk 0 rfl rfl)) ?_
              refine S.qui 96 rfl rfl (fun _ => .loadB sz3 ag3 (lk 0 rfl rfl) rfl (.ls (by have := six_lt m25; simp at this ⊢; omega) (.st rfl (flL_c rfl (flL_c rfl (flL_c rfl (flL_c rfl flL_nil)))) .nil)) (by first | rfl | omega) rfl rfl) ?_
              refine S.sil 97 rfl rfl (fun _ hF => .move (lk 36 rfl rfl)) ?_
              refine S.sil 98 rfl rfl (fun _ hF => .move (lk 33 rfl rfl)) ?_
              obtain ⟨j26, m26, h6⟩ := h6.bnd
              refine S.sil 99 rfl rfl (fun _ hF => .ixS sli22 (lk 1 rfl rfl) (lk 0 rfl rfl) m26) ?_
              refine S.sil 100 rfl rfl (fun _ hF => .fieldAddrC lay29 rfl rfl (lk 0 rfl rfl) rfl (flL_c rfl (flL_c rfl (flL_c rfl (flL_c rfl flL_nil))))) ?_
              refine S.sil 101 rfl rfl (fun _ hF => .loadC sz3 ag3 (lk 0 rfl rfl) rfl rfl) ?_
              refine S.sil 102 rfl rfl (fun _ hF => .bmax (lk 5 rfl rfl) (lk 0 rfl rfl)) ?_
              obtain ⟨j27, m27, h6⟩ := h6.bnd
              refine S.sil 103 rfl rfl (fun _ hF => .ixO sli22 (lk 12 rfl rfl) (lk 11 rfl rfl) (by first | rfl | simp) m27) ?_
              refine S.sil 104 rfl rfl (fun _ hF => .fieldAddr lay29 rfl rfl (lk 0 rfl rfl)) ?_
              obtain ⟨v28, ev28, h6⟩ := h6.nam
              refine S.effN rfl rfl (.storeB sz3 (lk 0 rfl rfl) (lk 2 rfl rfl) rfl (.refl _) rfl (.ls (by have := six_lt m27; simp at this ⊢; omega) (.st rfl (flL_c rfl (flL_c rfl (flL_c rfl (flL_c rfl flL_nil)))) .nil)) (by first | rfl | omega) (.ls ({ (s7.2.getD j27 default) with State := (max ((s7.2.getD j25 default).State) ((a2.getD j26 default).State)) }) (by have := six_lt m27; simp at this ⊢; omega) (.st rfl .nil rfl)) rfl rfl (congrArg (fun z => [AObj.buf 5 (List.map E_THold z)]) ev28.symm)) trivial ?_
              refine S.nilD (by kernel_rfl) ?_
              refine blockQ_n ?_
              refine thenQ_n ?_
              refine W.reg [0, 1, 2] rfl ?_
              refine S.sil 25 rfl rfl (fun _ hF => .move (lk 40 rfl rfl)) ?_
              refine S.sil 26 rfl rfl (fun _ hF => .add (lk 0 rfl rfl) cI) ?_
              refine S.sil 7 rfl rfl (fun _ hF => .assign (lk 0 rfl rfl)) ?_
              refine S.nil ?_
              refine thenQ_n ?_
              exact ⟨_, h6.ret, (Wk.selS [0] (by decide) rfl (SelE.leaf (lk 0 rfl rfl) rfl (.refl _) (fun m => ((TyOk.int .i64).lt _ _)) (SelE.spec (lk 44 rfl rfl) rfl (.slo (by first | rfl | simp [ev28])) rfl rfl (SelE.leaf (lk 45 rfl rfl) rfl (.refl _) (fun m => ((TyOk.int .i64).lt _ _)) (SelE.leaf (lk 46 rfl rfl) rfl (.refl _) (fun m => rfl) (SelE.leaf (lk 47 rfl rfl) rfl (.refl _) (fun m => (lt_sl rfl (ty_THold.ltm _ _))) .nil))))) (.cons (lt_buf ty_THold) rfl ⟨rfl, RSubL.leafr ty_THold _ rfl⟩ .nil))⟩
      · skip
        refine AWp.exit ?_
        refine thenQ_x ?_
        refine thenQ_x ?_
        refine blockQ_x ?_
        refine thenQ_n ?_
        exact ⟨_, h6.ret, (Wk.selS [0] (by decide) rfl (SelE.spec (lk 5 rfl rfl) rfl (.slo (by first | rfl | simp)) rfl rfl (SelE.leaf (lk 6 rfl rfl) rfl (.refl _) (fun m => ((TyOk.int .i64).lt _ _)) (SelE.leaf (lk 7 rfl rfl) rfl (.refl _) (fun m => rfl) .nil))) (.cons (lt_buf ty_THold) rfl ⟨rfl, RSubL.leafr ty_THold _ rfl⟩ .nil))⟩
    · skip
      refine thenQ_n ?_
      refine AWp.seq ?_
      refine AWp.seq ?_
      refine W.reg [0, 1, 2] rfl ?_
      refine S.sil 105 rfl rfl (fun _ hF => .move (lk 0 rfl rfl)) ?_
      refine S.sil 106 rfl rfl (fun _ hF => .lenO sli22 (lk 0 rfl rfl)) ?_
      refine S.sil 107 rfl rfl (fun _ hF => .gtr (lk 0 rfl rfl) cI) ?_
      refine S.nil ?_
      refine thenQ_n ?_
      refine AWp.condM (lk 0 rfl rfl) h (fun c7 h => ?_) (fun c7 h => ?_)
      · skip
        refine AWp.seq ?_
        refine W.reg [0, 1] rfl ?_
        refine S.sil 4 rfl rfl (fun _ hF => .assign cNs) ?_
        refine S.sil 5 rfl rfl (fun _ hF => .assign cI) ?_
        refine S.nil ?_
        refine thenQ_n ?_
        refine AWp.ret ?_
        refine thenQ_r ?_
        obtain rfl := h.ret
        exact endFN rfl (Wk.selS [] .nil rfl (SelE.leaf (lk 1 rfl rfl) rfl (.nils_no _) (fun m => (ty_S_THold.lt ([] : List THold) _)) (SelE.leaf (lk 0 rfl rfl) rfl (.refl _) (fun m => ((TyOk.int .i64).lt _ _)) .nil)) .nil) (.cons (.tmp (lk 0 rfl rfl) rfl) (.cons (.tmp (lk 1 rfl rfl) rfl) .nil)) rfl rfl rfl
      · skip
        refine AWp.skip ?_
        refine thenQ_n ?_
        refine AWp.seq ?_
        refine W.reg [0, 1, 2] rfl ?_
        refine S.sil 108 rfl rfl (fun _ hF => .move (lk 3 rfl rfl)) ?_
        refine S.sil 4 rfl rfl (fun _ hF => .assign (lk 0 rfl rfl)) ?_
        refine S.sil 5 rfl rfl (fun _ hF => .assign cI) ?_
        refine S.nil ?_
        refine thenQ_n ?_
        refine AWp.ret ?_
        refine endF_wk (Wk.freeze 0 rfl rfl (.same (lk 0 rfl rfl) (.cons (lk 1 rfl rfl) rfl (.slo (by first | rfl | simp)) (.same (lk 0 rfl rfl) (.same (lk 1 rfl rfl) .nil)))) (.refl _)) ?_
        obtain rfl := h.ret
        exact endFN rfl (Wk.selS [] .nil rfl (SelE.leaf (lk 1 rfl rfl) rfl (.refl _) (fun m => (ty_S_THold.lt _ _)) (SelE.leaf (lk 0 rfl rfl) rfl (.refl _) (fun m => ((TyOk.int .i64).lt _ _)) .nil)) .nil) (.cons (.tmp (lk 0 rfl rfl) rfl) (.cons (.tmp (lk 1 rfl rfl) rfl) .nil)) rfl rfl rfl
theorem C_usufructlaw06_HoldJoins {a1 : List THold} {a2 : List THold} {r : Bool} (h : usufructlaw06_HoldJoins a1 a2 = some r) : PureC Pg 6 [.sl 5 .no (List.map E_THold a1), .sl 5 .no (List.map E_THold a2)] (V.bool r) := by
  refine PureC.ofF (CallSpec.of_bodyF 38 0 Try.func6 rfl rfl rfl (Nat.le_of_ble_eq_true rfl) ?_) (ltL_c (lt_sl rfl (ty_THold.ltm _ _)) (ltL_c (lt_sl rfl (ty_THold.ltm _ _)) ltL_nil)) (TyOk.bool.lt _ _)
  replace h := Ok.of h
  unfold usufructlaw06_HoldJoins at h
  refine AWp.seq ?_
  refine W.reg [0] rfl ?_
  refine S.sil 4 rfl rfl (fun _ hF => .assign cB) ?_
  refine S.nil ?_
  refine thenQ_n ?_
  refine AWp.seq ?_
  refine AWp.seq ?_
  refine W.reg [0, 1, 2, 3, 4] rfl ?_
  refine S.sil 9 rfl rfl (fun _ hF => .move (lk 1 rfl rfl)) ?_
  refine S.sil 10 rfl rfl (fun _ hF => .move (lk 3 rfl rfl)) ?_
  refine S.sil 11 rfl rfl (fun _ hF => .buildSliceW sli44 zv22 rfl rfl (by decide) (.cons (lk 1 rfl rfl) rfl (.refl _) rfl (.cons (lk 0 rfl rfl) rfl (.refl _) rfl .nil))) ?_
  obtain ⟨r3, m3, h⟩ := h.bnd
  refine S.sil 12 rfl rfl (fun _ hF => .callQ ent10 cF (.c (lk 0 rfl rfl) (vsub rfl (.forget _ _ _)) .nil) (C_usufructlaw06_Few m3)) ?_
  refine S.sil 13 rfl rfl (fun _ hF => .not (lk 0 rfl rfl)) ?_
  refine S.nil ?_
  refine thenQ_n ?_
  refine AWp.condM (lk 0 rfl rfl) h (fun c1 h => ?_) (fun c1 h => ?_)
  · skip
    refine AWp.seq ?_
    refine W.reg [0, 1] rfl ?_
    obtain ⟨r4, m4, h⟩ := h.bnd
    refine S.sil 14 rfl rfl (fun _ hF => .callQ ent11 cF .nil (C_usufructlaw06_awake m4)) ?_
    refine S.sil 4 rfl rfl (fun _ hF => .assign (lk 0 rfl rfl)) ?_
    refine S.nil ?_
    refine thenQ_n ?_
    refine AWp.ret ?_
    refine thenQ_r ?_
    obtain rfl := h.ret
    exact endF1 rfl (Wk.selS [] .nil rfl (SelE.leaf (lk 0 rfl rfl) rfl (.refl _) (fun m => (TyOk.bool.lt _ _)) .nil) .nil) (.tmp (lk 0 rfl rfl) rfl) rfl rfl
  · skip
    refine AWp.skip ?_
    refine thenQ_n ?_
    refine AWp.seq ?_
    refine W.reg [0, 1, 2, 3, 4, 5, 6, 7] rfl ?_
    refine S.sil 16 rfl rfl (fun _ hF => .move (lk 6 rfl rfl)) ?_
    refine S.sil 17 rfl rfl (fun _ hF => .move (lk 8 rfl rfl)) ?_
    obtain ⟨r5, m5, h⟩ := h.bnd
    refine S.sil 18 rfl rfl (fun _ hF => .callQ ent26 cF (.c (lk 1 rfl rfl) (V.sub.refl _) (.c (lk 0 rfl rfl) (V.sub.refl _) .nil)) (C_hold_Join m5)) ?_
    refine S.sil 15 rfl rfl (fun _ hF => .move (lk 0 rfl rfl)) ?_
    refine S.sil 19 rfl rfl (fun _ hF => .extract (lk 0 rfl rfl) rfl) ?_
    refine S.sil 20 rfl rfl (fun _ hF => .extract (lk 1 rfl rfl) rfl) ?_
    refine S.sil 5 rfl rfl (fun _ hF => .assign (lk 1 rfl rfl)) ?_
    refine S.sil 6 rfl rfl (fun _ hF => .assign (lk 1 rfl rfl)) ?_
    refine S.nil ?_
    refine thenQ_n ?_
    refine AWp.prune (.eq (lk 0 rfl rfl) rfl (.eq (lk 1 rfl rfl) rfl (.eq (lk 13 rfl rfl) rfl (.eq (lk 14 rfl rfl) rfl (.eq (lk 15 rfl rfl) rfl .nil))))) ?_
    refine AWp.seq ?_
    refine W.reg [0, 1, 2, 3, 4, 5, 6, 7] rfl ?_
    refine S.sil 22 rfl rfl (fun _ hF => .move (lk 3 rfl rfl)) ?_
    refine S.sil 23 rfl rfl (fun _ hF => .move (lk 5 rfl rfl)) ?_
    obtain ⟨r6, m6, h⟩ := h.bnd
    refine S.sil 24 rfl rfl (fun _ hF => .callQ ent27 cF (.c (lk 1 rfl rfl) (V.sub.refl _) (.c (lk 0 rfl rfl) (V.sub.refl _) .nil)) (C_usufructref06_Join m6)) ?_
    refine S.sil 21 rfl rfl (fun _ hF => .move (lk 0 rfl rfl)) ?_
    refine S.sil 25 rfl rfl (fun _ hF => .extract (lk 0 rfl rfl) rfl) ?_
    refine S.sil 26 rfl rfl (fun _ hF => .extract (lk 1 rfl rfl) rfl) ?_
    refine S.sil 7 rfl rfl (fun _ hF => .assign (lk 1 rfl rfl)) ?_
    refine S.sil 8 rfl rfl (fun _ hF => .assign (lk 1 rfl rfl)) ?_
    refine S.nil ?_
    refine thenQ_n ?_
    refine AWp.seq ?_
    refine W.reg [0, 1, 2, 3, 4, 5, 6, 7, 8, 9, 10, 11] rfl ?_
    refine S.sil 27 rfl rfl (fun _ hF => .move (lk 9 rfl rfl)) ?_
    refine S.sil 28 rfl rfl (fun _ hF => .move (lk 2 rfl rfl)) ?_
    obtain ⟨r7, m7, h⟩ := h.bnd
    refine S.sil 29 rfl rfl (fun _ hF => .callQ ent13 cF (.c (lk 1 rfl rfl) (V.sub.refl _) (.c (lk 0 rfl rfl) (V.sub.refl _) .nil)) (C_usufructlaw06_Same m7)) ?_
    refine S.sil 30 rfl rfl (fun _ hF => .move (lk 0 rfl rfl)) ?_
    refine S.gsil 31 3 30 true rfl rfl rfl (lk 0 rfl rfl) (fun hB _ hF => .move (lk 12 rfl rfl)) ?_
    refine S.gsil 32 3 30 true rfl rfl rfl (lk 1 rfl rfl) (fun hB _ hF => .move (lk 5 rfl rfl)) ?_
    refine S.gsil 33 3 30 true rfl rfl rfl (lk 2 rfl rfl) (fun hB _ hF => .eql (ifT hB (lk 1 rfl rfl)) (ifT hB (lk 0 rfl rfl))) ?_
    refine S.sil 34 rfl rfl (fun _ hF => .pickAnd (lk 3 rfl rfl) (fun h => ifT h (lk 0 rfl rfl)) cB) ?_
    refine S.sil 35 rfl rfl (fun _ hF => .move (lk 0 rfl rfl)) ?_
    obtain ⟨r8, m8, h⟩ := h.bnd
    refine S.gsil 36 8 35 true rfl rfl rfl (lk 0 rfl rfl) (fun hB _ hF => .callQ ent11 cF .nil (C_usufructlaw06_awake (gd_get m8 hB))) ?_
    refine S.sil 37 rfl rfl (fun _ hF => .pickAnd (lk 1 rfl rfl) (fun h => ifT h (lk 0 rfl rfl)) cB) ?_
    obtain ⟨v9, ev9, h⟩ := h.nam
    refine S.sil 4 rfl rfl (fun _ hF => .nv (.assign (lk 0 rfl rfl)) (congrArg V.bool ev9.symm)) ?_
    refine S.nil ?_
    refine thenQ_n ?_
    refine AWp.prune (.eq (lk 0 rfl rfl) rfl .nil) ?_
    refine AWp.ret ?_
    obtain rfl := h.ret
    exact endF1 rfl (Wk.selS [] .nil rfl (SelE.leaf (lk 0 rfl rfl) rfl (.refl _) (fun m => (TyOk.bool.lt _ _)) .nil) .nil) (.tmp (lk 0 rfl rfl) rfl) rfl rfl
theorem C_usufructlaw06_HoldLaws {a1 : List THold} {a2 : List THold} {a3 : List THold} {r : Bool} (h : usufructlaw06_HoldLaws a1 a2 a3 = some r) : PureC Pg 7 [.sl 5 .no (List.map E_THold a1), .sl 5 .no (List.map E_THold a2), .sl 5 .no (List.map E_THold a3)] (V.bool r) := by
  refine PureC.ofF (CallSpec.of_bodyF 118 0 Try.func7 rfl rfl rfl (Nat.le_of_ble_eq_true rfl) ?_) (ltL_c (lt_sl rfl (ty_THold.ltm _ _)) (ltL_c (lt_sl rfl (ty_THold.ltm _ _)) (ltL_c (lt_sl rfl (ty_THold.ltm _ _)) ltL_nil))) (TyOk.bool.lt _ _)
  replace h := Ok.of h
  unfold usufructlaw06_HoldLaws at h
  refine AWp.seq ?_
  refine W.reg [0] rfl ?_
  refine S.sil 6 rfl rfl (fun _ hF => .assign cB) ?_
  refine S.nil ?_
  refine thenQ_n ?_
  refine AWp.seq ?_
  refine AWp.seq ?_
  refine W.reg [0, 1, 2, 3, 4, 5] rfl ?_
  refine S.sil 19 rfl rfl (fun _ hF => .move (lk 1 rfl rfl)) ?_
  refine S.sil 20 rfl rfl (fun _ hF => .move (lk 3 rfl rfl)) ?_
  refine S.sil 21 rfl rfl (fun _ hF => .move (lk 5 rfl rfl)) ?_
  refine S.sil 22 rfl rfl (fun _ hF => .buildSliceW sli44 zv22 rfl rfl (by decide) (.cons (lk 2 rfl rfl) rfl (.refl _) rfl (.cons (lk 1 rfl rfl) rfl (.refl _) rfl (.cons (lk 0 rfl rfl) rfl (.refl _) rfl .nil)))) ?_
  obtain ⟨r4, m4, h⟩ := h.bnd
  refine S.sil 23 rfl rfl (fun _ hF => .callQ ent10 cF (.c (lk 0 rfl rfl) (vsub rfl (.forget _ _ _)) .nil) (C_usufructlaw06_Few m4)) ?_
  refine S.sil 24 rfl rfl (fun _ hF => .not (lk 0 rfl rfl)) ?_
  refine S.nil ?_
  refine thenQ_n ?_
  refine AWp.condM (lk 0 rfl rfl) h (fun c1 h => ?_) (fun c1 h => ?_)
  · skip
    refine AWp.seq ?_
    refine W.reg [0, 1] rfl ?_
    obtain ⟨r5, m5, h⟩ := h.bnd
    refine S.sil 25 rfl rfl (fun _ hF => .callQ ent11 cF .nil (C_usufructlaw06_awake m5)) ?_
    refine S.sil 6 rfl rfl (fun _ hF => .assign (lk 0 rfl rfl)) ?_
    refine S.nil ?_
    refine thenQ_n ?_
    refine AWp.ret ?_
    refine thenQ_r ?_
    obtain rfl := h.ret
    exact endF1 rfl (Wk.selS [] .nil rfl (SelE.leaf (lk 0 rfl rfl) rfl (.refl _) (fun m => (TyOk.bool.lt _ _)) .nil) .nil) (.tmp (lk 0 rfl rfl) rfl) rfl rfl
  · skip
    refine AWp.skip ?_
    refine thenQ_n ?_
    refine AWp.seq ?_
    refine W.reg [0, 1, 2, 3, 4, 5, 6, 7] rfl ?_
    refine S.sil 27 rfl rfl (fun _ hF => .move (lk 7 rfl rfl)) ?_
    refine S.sil 28 rfl rfl (fun _ hF => .move (lk 9 rfl rfl)) ?_
    obtain ⟨r6, m6, h⟩ := h.bnd
    refine S.sil 29 rfl rfl (fun _ hF => .callQ ent26 cF (.c (lk 1 rfl rfl) (V.sub.refl _) (.c (lk 0 rfl rfl) (V.sub.refl _) .nil)) (C_hold_Join m6)) ?_
    refine S.sil 26 rfl rfl (fun _ hF => .move (lk 0 rfl rfl)) ?_
    refine S.sil 30 rfl rfl (fun _ hF => .extract (lk 0 rfl rfl) rfl) ?_
    refine S.sil 31 rfl rfl (fun _ hF => .extract (lk 1 rfl rfl) rfl) ?_
    refine S.sil 7 rfl rfl (fun _ hF => .assign (lk 1 rfl rfl)) ?_
    refine S.sil 8 rfl rfl (fun _ hF => .assign (lk 1 rfl rfl)) ?_
    refine S.nil ?_
    refine thenQ_n ?_
    refine AWp.prune (.eq (lk 0 rfl rfl) rfl (.eq (lk 1 rfl rfl) rfl (.eq (lk 14 rfl rfl) rfl (.eq (lk 15 rfl rfl) rfl (.eq (lk 16 rfl rfl) rfl (.eq (lk 17 rfl rfl) rfl .nil)))))) ?_
    refine AWp.seq ?_
    refine W.reg [0, 1, 2, 3, 4, 5, 6, 7] rfl ?_
    refine S.sil 33 rfl rfl (fun _ hF => .move (lk 4 rfl rfl)) ?_
    refine S.sil 34 rfl rfl (fun _ hF => .move (lk 4 rfl rfl)) ?_
    obtain ⟨r7, m7, h⟩ := h.bnd
    refine S.sil 35 rfl rfl (fun _ hF => .callQ ent26 cF (.c (lk 1 rfl rfl) (V.sub.refl _) (.c (lk 0 rfl rfl) (V.sub.refl _) .nil)) (C_hold_Join m7)) ?_
    refine S.sil 32 rfl rfl (fun _ hF => .move (lk 0 rfl rfl)) ?_
    refine S.sil 36 rfl rfl (fun _ hF => .extract (lk 0 rfl rfl) rfl) ?_
    refine S.sil 37 rfl rfl (fun _ hF => .extract (lk 1 rfl rfl) rfl) ?_
    refine S.sil 9 rfl rfl (fun _ hF => .assign (lk 1 rfl rfl)) ?_
    refine S.sil 10 rfl rfl (fun _ hF => .assign (lk 1 rfl rfl)) ?_
    refine S.nil ?_
    refine thenQ_n ?_
    refine AWp.seq ?_
    refine W.reg [0, 1, 2, 3, 4, 5, 6, 7] rfl ?_
    refine S.sil 39 rfl rfl (fun _ hF => .move (lk 11 rfl rfl)) ?_
    refine S.sil 40 rfl rfl (fun _ hF => .move (lk 12 rfl rfl)) ?_
    obtain ⟨r8, m8, h⟩ := h.bnd
    refine S.sil 41 rfl rfl (fun _ hF => .callQ ent26 cF (.c (lk 1 rfl rfl) (V.sub.refl _) (.c (lk 0 rfl rfl) (V.sub.refl _) .nil)) (C_hold_Join m8)) ?_
    refine S.sil 38 rfl rfl (fun _ hF => .move (lk 0 rfl rfl)) ?_
    refine S.sil 42 rfl rfl (fun _ hF => .extract (lk 0 rfl rfl) rfl) ?_
    refine S.sil 43 rfl rfl (fun _ hF => .extract (lk 1 rfl rfl) rfl) ?_
    refine S.sil 11 rfl rfl (fun _ hF => .assign (lk 1 rfl rfl)) ?_
    refine S.sil 12 rfl rfl (fun _ hF => .assign (lk 1 rfl rfl)) ?_
    refine S.nil ?_
    refine thenQ_n ?_
    refine AWp.prune (.eq (lk 0 rfl rfl) rfl (.eq (lk 1 rfl rfl) rfl (.eq (lk 8 rfl rfl) rfl (.eq (lk 9 rfl rfl) rfl (.eq (lk 16 rfl rfl) rfl (.eq (lk 17 rfl rfl) rfl (.eq (lk 18 rfl rfl) rfl (.eq (lk 19 rfl rfl) rfl (.eq (lk 20 rfl rfl) rfl (.eq (lk 21 rfl rfl) rfl .nil)))))))))) ?_
    refine AWp.seq ?_
    refine AWp.seq ?_
    refine W.reg [0, 1, 2, 3, 4, 5, 6, 7, 8, 9, 10, 11, 12, 13, 14, 15, 16, 17, 18, 19, 20, 21, 22, 23, 24, 25] rfl ?_
    refine S.sil 44 rfl rfl (fun _ hF => .move (lk 5 rfl rfl)) ?_
    refine S.sil 45 rfl rfl (fun _ hF => .move (lk 4 rfl rfl)) ?_
    obtain ⟨r9, m9, h⟩ := h.bnd
    refine S.sil 46 rfl rfl (fun _ hF => .callQ ent13 cF (.c (lk 1 rfl rfl) (V.sub.refl _) (.c (lk 0 rfl rfl) (V.sub.refl _) .nil)) (C_usufructlaw06_Same m9)) ?_
    refine S.sil 47 rfl rfl (fun _ hF => .not (lk 0 rfl rfl)) ?_
    refine S.sil 48 rfl rfl (fun _ hF => .move (lk 0 rfl rfl)) ?_
    refine S.gsil 49 4 48 false rfl rfl rfl (lk 0 rfl rfl) (fun hB _ hF => .move (lk 9 rfl rfl)) ?_
    refine S.gsil 50 4 48 false rfl rfl rfl (lk 1 rfl rfl) (fun hB _ hF => .move (lk 8 rfl rfl)) ?_
    refine S.gsil 51 4 48 false rfl rfl rfl (lk 2 rfl rfl) (fun hB _ hF => .neq (ifT hB (lk 1 rfl rfl)) (ifT hB (lk 0 rfl rfl))) ?_
    refine S.sil 52 rfl rfl (fun _ hF => .pickOr (lk 3 rfl rfl) cB (fun h => ifT h (lk 0 rfl rfl))) ?_
    refine S.sil 53 rfl rfl (fun _ hF => .move (lk 0 rfl rfl)) ?_
    refine S.gsil 54 9 53 false rfl rfl rfl (lk 0 rfl rfl) (fun hB _ hF => .move (lk 10 rfl rfl)) ?_
    refine S.gsil 55 9 53 false rfl rfl rfl (lk 1 rfl rfl) (fun hB _ hF => .eql (ifT hB (lk 0 rfl rfl)) cI) ?_
    refine S.gsil 56 9 53 false rfl rfl rfl (lk 2 rfl rfl) (fun hB _ hF => .move (ifT hB (lk 0 rfl rfl))) ?_
    refine S.gsil2 57 12 56 true rfl rfl rfl (lk 0 rfl rfl) (fun hB _ hF => .move (lk 14 rfl rfl)) ?_
    refine S.gsil2 58 12 56 true rfl rfl rfl (lk 1 rfl rfl) (fun hB _ hF => .move (lk 21 rfl rfl)) ?_
    obtain ⟨r10, m10, h⟩ := h.bnd
    refine S.gsil2 59 12 56 true rfl rfl rfl (lk 2 rfl rfl) (fun hB _ hF => .callQ ent13 cF (.c (ifT hB (lk 1 rfl rfl)) (V.sub.refl _) (.c (ifT hB (lk 0 rfl rfl)) (V.sub.refl _) .nil)) (C_usufructlaw06_Same (gd_get m10 hB))) ?_
    refine S.gsil2 60 12 56 true rfl rfl rfl (lk 3 rfl rfl) (fun hB _ hF => .not (ifT hB (lk 0 rfl rfl))) ?_
    refine S.gsil 61 9 53 false rfl rfl rfl (lk 7 rfl rfl) (fun hB _ hF => .pickAnd (ifT hB (lk 4 rfl rfl)) (fun h => ifT ⟨hB, h⟩ (lk 0 rfl rfl)) cB) ?_
    obtain ⟨v11, ev11, h⟩ := h.nam
    refine S.sil 62 rfl rfl (fun _ hF => .nv (.pickOr (lk 8 rfl rfl) cB (fun h => ifT h (lk 0 rfl rfl))) (congrArg V.bool ev11.symm)) ?_
    refine S.sil 63 rfl rfl (fun _ hF => .move (lk 0 rfl rfl)) ?_
    refine S.gsil 64 19 63 false rfl rfl rfl (lk 0 rfl rfl) (fun hB _ hF => .move (lk 20 rfl rfl)) ?_
    refine S.gsil 65 19 63 false rfl rfl rfl (lk 1 rfl rfl) (fun hB _ hF => .eql (ifT hB (lk 0 rfl rfl)) cI) ?_
    refine S.gsil 66 19 63 false rfl rfl rfl (lk 2 rfl rfl) (fun hB _ hF => .move (lk 29 rfl rfl)) ?_
    obtain ⟨r12, m12, h⟩ := h.bnd
    refine S.gsil 67 19 63 false rfl rfl rfl (lk 3 rfl rfl) (fun hB _ hF => .callQ ent18 cF (.c (ifT hB (lk 0 rfl rfl)) (V.sub.refl _) .nil) (C_usufructref06_Rights (gd_get m12 hB))) ?_
    refine S.gsil 68 19 63 false rfl rfl rfl (lk 4 rfl rfl) (fun hB _ hF => .neqB und4 (ifT hB (lk 2 rfl rfl)) (ifT hB (lk 0 rfl rfl))) ?_
    refine S.sil 69 rfl rfl (fun _ hF => .pickOr (lk 5 rfl rfl) cB (fun h => ifT h (lk 0 rfl rfl))) ?_
    refine S.nil ?_
    refine thenQ_n ?_
    refine AWp.prune (.eq (lk 0 rfl rfl) rfl (.eq (lk 30 rfl rfl) rfl (.eq (lk 31 rfl rfl) rfl (.eq (lk 32 rfl rfl) rfl (.eq (lk 33 rfl rfl) rfl (.eq (lk 34 rfl rfl) rfl (.eq (lk 35 rfl rfl) rfl .nil))))))) ?_
    refine AWp.condM (lk 0 rfl rfl) h (fun c2 h => ?_) (fun c2 h => ?_)
    · skip
      refine AWp.seq ?_
      refine W.reg [0] rfl ?_
      refine S.sil 6 rfl rfl (fun _ hF => .assign cB) ?_
      refine S.nil ?_
      refine thenQ_n ?_
      refine AWp.ret ?_
      refine thenQ_r ?_
      obtain rfl := h.ret
      exact endF1 rfl (Wk.selS [] .nil rfl (SelE.leaf (lk 0 rfl rfl) rfl (.refl _) (fun m => (TyOk.bool.lt _ _)) .nil) .nil) (.tmp (lk 0 rfl rfl) rfl) rfl rfl
    · skip
      refine AWp.skip ?_
      refine thenQ_n ?_
      refine AWp.seq ?_
      refine AWp.seq ?_
      refine W.reg [0, 1] rfl ?_
      refine S.sil 70 rfl rfl (fun _ hF => .move (lk 1 rfl rfl)) ?_
      refine S.sil 71 rfl rfl (fun _ hF => .neq (lk 0 rfl rfl) cI) ?_
      refine S.nil ?_
      refine thenQ_n ?_
      refine AWp.condM (lk 0 rfl rfl) h (fun c3 h => ?_) (fun c3 h => ?_)
      · skip
        refine AWp.seq ?_
        refine W.reg [0, 1, 2, 3, 4, 5, 6] rfl ?_
        refine S.sil 72 rfl rfl (fun _ hF => .move (lk 4 rfl rfl)) ?_
        refine S.sil 73 rfl rfl (fun _ hF => .lenT sli22 (lk 0 rfl rfl) (vsub rfl (.refl _))) ?_
        refine S.sil 74 rfl rfl (fun _ hF => .eql (lk 0 rfl rfl) cI) ?_
        refine S.sil 75 rfl rfl (fun _ hF => .move (lk 0 rfl rfl)) ?_
        obtain ⟨r13, m13, h⟩ := h.bnd
        refine S.gsil 76 3 75 true rfl rfl rfl (lk 0 rfl rfl) (fun hB _ hF => .callQ ent11 cF .nil (C_usufructlaw06_awake (gd_get m13 hB))) ?_
        refine S.sil 77 rfl rfl (fun _ hF => .pickAnd (lk 1 rfl rfl) (fun h => ifT h (lk 0 rfl rfl)) cB) ?_
        obtain ⟨v14, ev14, h⟩ := h.nam
        refine S.sil 6 rfl rfl (fun _ hF => .nv (.assign (lk 0 rfl rfl)) (congrArg V.bool ev14.symm)) ?_
        refine S.nil ?_
        refine thenQ_n ?_
        refine AWp.prune (.eq (lk 0 rfl rfl) rfl (.eq (lk 11 rfl rfl) rfl (.eq (lk 13 rfl rfl) rfl (.eq (lk 14 rfl rfl) rfl (.eq (lk 15 rfl rfl) rfl .nil))))) ?_
        refine AWp.ret ?_
        refine thenQ_r ?_
        obtain rfl := h.ret
        exact endF1 rfl (Wk.selS [] .nil rfl (SelE.leaf (lk 0 rfl rfl) rfl (.refl _) (fun m => (TyOk.bool.lt _ _)) .nil) .nil) (.tmp (lk 0 rfl rfl) rfl) rfl rfl
      · skip
        refine AWp.skip ?_
        refine thenQ_n ?_
        refine AWp.seq ?_
        refine W.reg [0, 1, 2, 3, 4, 5, 6, 7] rfl ?_
        refine S.sil 79 rfl rfl (fun _ hF => .move (lk 4 rfl rfl)) ?_
        refine S.sil 80 rfl rfl (fun _ hF => .move (lk 9 rfl rfl)) ?_
        obtain ⟨r15, m15, h⟩ := h.bnd
        refine S.sil 81 rfl rfl (fun _ hF => .callQ ent26 cF (.c (lk 1 rfl rfl) (V.sub.refl _) (.c (lk 0 rfl rfl) (V.sub.refl _) .nil)) (C_hold_Join m15)) ?_
        refine S.sil 78 rfl rfl (fun _ hF => .move (lk 0 rfl rfl)) ?_
        refine S.sil 82 rfl rfl (fun _ hF => .extract (lk 0 rfl rfl) rfl) ?_
        refine S.sil 83 rfl rfl (fun _ hF => .extract (lk 1 rfl rfl) rfl) ?_
        refine S.sil 13 rfl rfl (fun _ hF => .assign (lk 1 rfl rfl)) ?_
        refine S.sil 14 rfl rfl (fun _ hF => .assign (lk 1 rfl rfl)) ?_
        refine S.nil ?_
        refine thenQ_n ?_
        refine AWp.prune (.eq (lk 0 rfl rfl) rfl (.eq (lk 1 rfl rfl) rfl (.eq (lk 12 rfl rfl) rfl (.eq (lk 13 rfl rfl) rfl (.eq (lk 14 rfl rfl) rfl (.eq (lk 15 rfl rfl) rfl (.eq (lk 16 rfl rfl) rfl .nil))))))) ?_
        refine AWp.seq ?_
        refine W.reg [0, 1, 2, 3, 4, 5, 6, 7] rfl ?_
        refine S.sil 85 rfl rfl (fun _ hF => .move (lk 5 rfl rfl)) ?_
        refine S.sil 86 rfl rfl (fun _ hF => .move (lk 7 rfl rfl)) ?_
        obtain ⟨r16, m16, h⟩ := h.bnd
        refine S.sil 87 rfl rfl (fun _ hF => .callQ ent26 cF (.c (lk 1 rfl rfl) (V.sub.refl _) (.c (lk 0 rfl rfl) (V.sub.refl _) .nil)) (C_hold_Join m16)) ?_
        refine S.sil 84 rfl rfl (fun _ hF => .move (lk 0 rfl rfl)) ?_
        refine S.sil 88 rfl rfl (fun _ hF => .extract (lk 0 rfl rfl) rfl) ?_
        refine S.sil 89 rfl rfl (fun _ hF => .extract (lk 1 rfl rfl) rfl) ?_
        refine S.sil 15 rfl rfl (fun _ hF => .assign (lk 1 rfl rfl)) ?_
        refine S.sil 16 rfl rfl (fun _ hF => .assign (lk 1 rfl rfl)) ?_
        refine S.nil ?_
        refine thenQ_n ?_
        refine AWp.seq ?_
        refine AWp.seq ?_
        refine W.reg [0, 1] rfl ?_
        refine S.sil 90 rfl rfl (fun _ hF => .move (lk 0 rfl rfl)) ?_
        refine S.sil 91 rfl rfl (fun _ hF => .neq (lk 0 rfl rfl) cI) ?_
        refine S.nil ?_
        refine thenQ_n ?_
        refine AWp.prune (.eq (lk 0 rfl rfl) rfl (.eq (lk 3 rfl rfl) rfl (.eq (lk 10 rfl rfl) rfl (.eq (lk 11 rfl rfl) rfl (.eq (lk 12 rfl rfl) rfl (.eq (lk 13 rfl rfl) rfl (.eq (lk 14 rfl rfl) rfl .nil))))))) ?_
        refine AWp.condM (lk 0 rfl rfl) h (fun c4 h => ?_) (fun c4 h => ?_)
        · skip
          refine AWp.seq ?_
          refine W.reg [0, 1, 2, 3, 4, 5] rfl ?_
          refine S.sil 92 rfl rfl (fun _ hF => .move (lk 2 rfl rfl)) ?_
          refine S.sil 93 rfl rfl (fun _ hF => .neq (lk 0 rfl rfl) cI) ?_
          refine S.sil 94 rfl rfl (fun _ hF => .move (lk 0 rfl rfl)) ?_
          obtain ⟨r17, m17, h⟩ := h.bnd
          refine S.gsil 95 2 94 true rfl rfl rfl (lk 0 rfl rfl) (fun hB _ hF => .callQ ent11 cF .nil (C_usufructlaw06_awake (gd_get m17 hB))) ?_
          refine S.sil 96 rfl rfl (fun _ hF => .pickAnd (lk 1 rfl rfl) (fun h => ifT h (lk 0 rfl rfl)) cB) ?_
          obtain ⟨v18, ev18, h⟩ := h.nam
          refine S.sil 6 rfl rfl (fun _ hF => .nv (.assign (lk 0 rfl rfl)) (congrArg V.bool ev18.symm)) ?_
          refine S.nil ?_
          refine thenQ_n ?_
          refine AWp.ret ?_
          refine thenQ_r ?_
          obtain rfl := h.ret
          exact endF1 rfl (Wk.selS [] .nil rfl (SelE.leaf (lk 0 rfl rfl) rfl (.refl _) (fun m => (TyOk.bool.lt _ _)) .nil) .nil) (.tmp (lk 0 rfl rfl) rfl) rfl rfl
        · skip
          refine AWp.skip ?_
          refine thenQ_n ?_
          refine AWp.seq ?_
          refine W.reg [0, 1, 2, 3, 4, 5, 6, 7] rfl ?_
          refine S.sil 98 rfl rfl (fun _ hF => .move (lk 6 rfl rfl)) ?_
          refine S.sil 99 rfl rfl (fun _ hF => .move (lk 2 rfl rfl)) ?_
          obtain ⟨r19, m19, h⟩ := h.bnd
          refine S.sil 100 rfl rfl (fun _ hF => .callQ ent26 cF (.c (lk 1 rfl rfl) (V.sub.refl _) (.c (lk 0 rfl rfl) (V.sub.refl _) .nil)) (C_hold_Join m19)) ?_
          refine S.sil 97 rfl rfl (fun _ hF => .move (lk 0 rfl rfl)) ?_
          refine S.sil 101 rfl rfl (fun _ hF => .extract (lk 0 rfl rfl) rfl) ?_
          refine S.sil 102 rfl rfl (fun _ hF => .extract (lk 1 rfl rfl) rfl) ?_
          refine S.sil 17 rfl rfl (fun _ hF => .assign (lk 1 rfl rfl)) ?_
          refine S.sil 18 rfl rfl (fun _ hF => .assign (lk 1 rfl rfl)) ?_
          refine S.nil ?_
          refine thenQ_n ?_
          refine AWp.seq ?_
          refine W.reg [0, 1, 2, 3, 4, 5, 6, 7, 8, 9, 10, 11, 12, 13, 14, 15] rfl ?_
          refine S.sil 103 rfl rfl (fun _ hF => .move (lk 11 rfl rfl)) ?_
          refine S.sil 104 rfl rfl (fun _ hF => .move (lk 2 rfl rfl)) ?_
          obtain ⟨r20, m20, h⟩ := h.bnd
          refine S.sil 105 rfl rfl (fun _ hF => .callQ ent13 cF (.c (lk 1 rfl rfl) (V.sub.refl _) (.c (lk 0 rfl rfl) (V.sub.refl _) .nil)) (C_usufructlaw06_Same m20)) ?_
          refine S.sil 106 rfl rfl (fun _ hF => .move (lk 0 rfl rfl)) ?_
          refine S.gsil 107 3 106 true rfl rfl rfl (lk 0 rfl rfl) (fun hB _ hF => .move (lk 14 rfl rfl)) ?_
          refine S.gsil 108 3 106 true rfl rfl rfl (lk 1 rfl rfl) (fun hB _ hF => .move (lk 5 rfl rfl)) ?_
          refine S.gsil 109 3 106 true rfl rfl rfl (lk 2 rfl rfl) (fun hB _ hF => .eql (ifT hB (lk 1 rfl rfl)) (ifT hB (lk 0 rfl rfl))) ?_
          refine S.sil 110 rfl rfl (fun _ hF => .pickAnd (lk 3 rfl rfl) (fun h => ifT h (lk 0 rfl rfl)) cB) ?_
          refine S.sil 111 rfl rfl (fun _ hF => .move (lk 0 rfl rfl)) ?_
          refine S.gsil 112 8 111 true rfl rfl rfl (lk 0 rfl rfl) (fun hB _ hF => .move (lk 21 rfl rfl)) ?_
          obtain ⟨r21, m21, h⟩ := h.bnd
          refine S.gsil 113 8 111 true rfl rfl rfl (lk 1 rfl rfl) (fun hB _ hF => .callQ ent17 cF (.c (ifT hB (lk 0 rfl rfl)) (V.sub.refl _) .nil) (C_hold_Rights (gd_get m21 hB))) ?_
          refine S.sil 114 rfl rfl (fun _ hF => .pickAnd (lk 2 rfl rfl) (fun h => ifT h (lk 0 rfl rfl)) cB) ?_
          refine S.sil 115 rfl rfl (fun _ hF => .move (lk 0 rfl rfl)) ?_
          obtain ⟨r22, m22, h⟩ := h.bnd
          refine S.gsil 116 12 115 true rfl rfl rfl (lk 0 rfl rfl) (fun hB _ hF => .callQ ent11 cF .nil (C_usufructlaw06_awake (gd_get m22 hB))) ?_
          refine S.sil 117 rfl rfl (fun _ hF => .pickAnd (lk 1 rfl rfl) (fun h => ifT h (lk 0 rfl rfl)) cB) ?_
          obtain ⟨v23, ev23, h⟩ := h.nam
          refine S.sil 6 rfl rfl (fun _ hF => .nv (.assign (lk 0 rfl rfl)) (congrArg V.bool ev23.symm)) ?_
          refine S.nil ?_
          refine thenQ_n ?_
          refine AWp.prune (.eq (lk 0 rfl rfl) rfl .nil) ?_
          refine AWp.ret ?_
          obtain rfl := h.ret
          exact endF1 rfl (Wk.selS [] .nil rfl (SelE.leaf (lk 0 rfl rfl) rfl (.refl _) (fun m => (TyOk.bool.lt _ _)) .nil) .nil) (.tmp (lk 0 rfl rfl) rfl) rfl rfl
theorem C_usufructlaw06_HoldStays {a1 : List THold} {a2 : Int} {a3 : Int} {a4 : Int} {r : Bool} (h : usufructlaw06_HoldStays a1 a2 a3 a4 = some r) : PureC Pg 8 [.sl 5 .no (List.map E_THold a1), (V.int .i64) a2, (V.int .i64) a3, (V.int .i64) a4] (V.bool r) := by
  refine PureC.ofF (CallSpec.of_bodyF 93 0 Try.func8 rfl rfl rfl (Nat.le_of_ble_eq_true rfl) ?_) (ltL_c (lt_sl rfl (ty_THold.ltm _ _)) (ltL_c ((TyOk.int .i64).lt _ _) (ltL_c ((TyOk.int .i64).lt _ _) (ltL_c ((TyOk.int .i64).lt _ _) ltL_nil)))) (TyOk.bool.lt _ _)
  replace h := Ok.of h
  unfold usufructlaw06_HoldStays at h
  refine AWp.seq ?_
  refine W.reg [0] rfl ?_
  refine S.sil 8 rfl rfl (fun _ hF => .assign cB) ?_
  refine S.nil ?_
  refine thenQ_n ?_
  refine AWp.seq ?_
  refine AWp.seq ?_
  refine W.reg [0, 1, 2, 3, 4, 5, 6, 7, 8] rfl ?_
  refine S.sil 21 rfl rfl (fun _ hF => .move (lk 1 rfl rfl)) ?_
  refine S.sil 22 rfl rfl (fun _ hF => .buildSliceW sli44 zv22 rfl rfl (by decide) (.cons (lk 0 rfl rfl) rfl (.refl _) rfl .nil)) ?_
  obtain ⟨r5, m5, h⟩ := h.bnd
  refine S.sil 23 rfl rfl (fun _ hF => .callQ ent10 cF (.c (lk 0 rfl rfl) (vsub rfl (.forget _ _ _)) .nil) (C_usufructlaw06_Few m5)) ?_
  refine S.sil 24 rfl rfl (fun _ hF => .not (lk 0 rfl rfl)) ?_
  refine S.sil 25 rfl rfl (fun _ hF => .move (lk 0 rfl rfl)) ?_
  refine S.gsil 26 4 25 false rfl rfl rfl (lk 0 rfl rfl) (fun hB _ hF => .move (lk 6 rfl rfl)) ?_
  obtain ⟨r6, m6, h⟩ := h.bnd
  refine S.gsil 27 4 25 false rfl rfl rfl (lk 1 rfl rfl) (fun hB _ hF => .callQ ent18 cF (.c (ifT hB (lk 0 rfl rfl)) (V.sub.refl _) .nil) (C_usufructref06_Rights (gd_get m6 hB))) ?_
  refine S.gsil 28 4 25 false rfl rfl rfl (lk 2 rfl rfl) (fun hB _ hF => .not (ifT hB (lk 0 rfl rfl))) ?_
  refine S.sil 29 rfl rfl (fun _ hF => .pickOr (lk 3 rfl rfl) cB (fun h => ifT h (lk 0 rfl rfl))) ?_
  refine S.nil ?_
  refine thenQ_n ?_
  refine AWp.condM (lk 0 rfl rfl) h (fun c1 h => ?_) (fun c1 h => ?_)
  · skip
    refine AWp.seq ?_
    refine W.reg [0, 1] rfl ?_
    obtain ⟨r7, m7, h⟩ := h.bnd
    refine S.sil 30 rfl rfl (fun _ hF => .callQ ent11 cF .nil (C_usufructlaw06_awake m7)) ?_
    refine S.sil 8 rfl rfl (fun _ hF => .assign (lk 0 rfl rfl)) ?_
    refine S.nil ?_
    refine thenQ_n ?_
    refine AWp.prune (.eq (lk 0 rfl rfl) rfl (.eq (lk 12 rfl rfl) rfl (.eq (lk 13 rfl rfl) rfl (.eq (lk 14 rfl rfl) rfl (.eq (lk 15 rfl rfl) rfl .nil))))) ?_
    refine AWp.ret ?_
    refine thenQ_r ?_
    obtain rfl := h.ret
    exact endF1 rfl (Wk.selS [] .nil rfl (SelE.leaf (lk 0 rfl rfl) rfl (.refl _) (fun m => (TyOk.bool.lt _ _)) .nil) .nil) (.tmp (lk 0 rfl rfl) rfl) rfl rfl
  · skip
    refine AWp.skip ?_
    refine thenQ_n ?_
    refine AWp.seq ?_
    refine W.reg [0, 1, 2, 3, 4, 5, 6, 7, 8, 9] rfl ?_
    refine S.sil 32 rfl rfl (fun _ hF => .move (lk 10 rfl rfl)) ?_
    refine S.sil 33 rfl rfl (fun _ hF => .move (lk 12 rfl rfl)) ?_
    refine S.sil 34 rfl rfl (fun _ hF => .move (lk 14 rfl rfl)) ?_
    obtain ⟨r8, m8, h⟩ := h.bnd
    refine S.sil 35 rfl rfl (fun _ hF => .callQ ent16 cF (.c (lk 2 rfl rfl) (V.sub.refl _) (.c (lk 1 rfl rfl) (V.sub.refl _) (.c (lk 0 rfl rfl) (V.sub.refl _) .nil))) (C_hold_Find m8)) ?_
    refine S.sil 31 rfl rfl (fun _ hF => .move (lk 0 rfl rfl)) ?_
    refine S.sil 36 rfl rfl (fun _ hF => .extract (lk 0 rfl rfl) rfl) ?_
    refine S.sil 37 rfl rfl (fun _ hF => .extract (lk 1 rfl rfl) rfl) ?_
    refine S.eff 9 rfl rfl (.nf (v2 := .ptr 0 [] 0) (H2 := [.cells (E_THold (default : THold))]) (.alloc zv29) rfl rfl) trivial ?_
    refine S.effN rfl rfl (.nf (H2 := [.cells (E_THold r8.1)]) (.storeP sz29 (lk 0 rfl rfl) (lk 2 rfl rfl) rfl (.refl _) rfl .nil (by first | rfl | omega) .nil (ty_THold.fl r8.1) (ty_THold.fl (default : THold)) rfl) rfl rfl) trivial ?_
    refine S.sil 10 rfl rfl (fun _ hF => .assign (lk 1 rfl rfl)) ?_
    refine S.nil ?_
    refine thenQ_n ?_
    refine AWp.wk (Wk.freeze 0 rfl rfl (.same (lk 0 rfl rfl) (.cons (lk 1 rfl rfl) rfl (.ptr .nil (by first | rfl | omega)) (.same (lk 18 rfl rfl) (.same (lk 19 rfl rfl) (.same (lk 20 rfl rfl) (.same (lk 21 rfl rfl) (.same (lk 22 rfl rfl) .nil))))))) (.refl _)) ?_
    refine AWp.seq ?_
    refine AWp.seq ?_
    refine W.reg [0, 1, 2, 3, 4, 5, 6] rfl ?_
    refine S.sil 38 rfl rfl (fun _ hF => .move (lk 0 rfl rfl)) ?_
    refine S.sil 39 rfl rfl (fun _ hF => .not (lk 0 rfl rfl)) ?_
    refine S.sil 40 rfl rfl (fun _ hF => .move (lk 0 rfl rfl)) ?_
    refine S.gsil 41 2 40 false rfl rfl rfl (lk 0 rfl rfl) (fun hB _ hF => .fieldAddrC lay29 rfl rfl (lk 4 rfl rfl) rfl (flL_c rfl (flL_c rfl (flL_c rfl (flL_c rfl flL_nil))))) ?_
    refine S.gsil 42 2 40 false rfl rfl rfl (lk 1 rfl rfl) (fun hB _ hF => .loadC sz3 ag3 (ifT hB (lk 0 rfl rfl)) rfl rfl) ?_
    refine S.gsil 43 2 40 false rfl rfl rfl (lk 2 rfl rfl) (fun hB _ hF => .eql (ifT hB (lk 0 rfl rfl)) cI) ?_
    refine S.sil 44 rfl rfl (fun _ hF => .pickOr (lk 3 rfl rfl) cB (fun h => ifT h (lk 0 rfl rfl))) ?_
    refine S.nil ?_
    refine thenQ_n ?_
    refine AWp.condM (lk 0 rfl rfl) h (fun c2 h => ?_) (fun c2 h => ?_)
    · skip
      refine AWp.seq ?_
      refine W.reg [0, 1] rfl ?_
      obtain ⟨r9, m9, h⟩ := h.bnd
      refine S.sil 45 rfl rfl (fun _ hF => .callQ ent11 cF .nil (C_usufructlaw06_awake m9)) ?_
      refine S.sil 8 rfl rfl (fun _ hF => .assign (lk 0 rfl rfl)) ?_
      refine S.nil ?_
      refine thenQ_n ?_
      refine AWp.prune (.eq (lk 0 rfl rfl) rfl (.eq (lk 10 rfl rfl) rfl (.eq (lk 12 rfl rfl) rfl (.eq (lk 13 rfl rfl) rfl (.eq (lk 14 rfl rfl) rfl (.eq (lk 15 rfl rfl) rfl .nil)))))) ?_
      refine AWp.ret ?_
      refine thenQ_r ?_
      obtain rfl := h.ret
      exact endF1 rfl (Wk.selS [] .nil rfl (SelE.leaf (lk 0 rfl rfl) rfl (.refl _) (fun m => (TyOk.bool.lt _ _)) .nil) .nil) (.tmp (lk 0 rfl rfl) rfl) rfl rfl
    · skip
      refine AWp.skip ?_
      refine thenQ_n ?_
      refine AWp.seq ?_
      refine W.reg [0, 1, 2, 3, 4, 5, 6, 7, 8, 9, 10] rfl ?_
      refine S.sil 47 rfl rfl (fun _ hF => .move (lk 10 rfl rfl)) ?_
      refine S.sil 48 rfl rfl (fun _ hF => .move (lk 12 rfl rfl)) ?_
      refine S.sil 49 rfl rfl (fun _ hF => .move (lk 14 rfl rfl)) ?_
      obtain ⟨r10, m10, h⟩ := h.bnd
      refine S.sil 50 rfl rfl (fun _ hF => .callQ ent23 cF (.c (lk 2 rfl rfl) (V.sub.refl _) (.c (lk 1 rfl rfl) (V.sub.refl _) (.c (lk 0 rfl rfl) (V.sub.refl _) (.c cI (V.sub.refl _) .nil)))) (C_hold_End m10)) ?_
      refine S.sil 46 rfl rfl (fun _ hF => .move (lk 0 rfl rfl)) ?_
      refine S.sil 51 rfl rfl (fun _ hF => .extract (lk 0 rfl rfl) rfl) ?_
      refine S.sil 52 rfl rfl (fun _ hF => .extract (lk 1 rfl rfl) rfl) ?_
      refine S.sil 53 rfl rfl (fun _ hF => .extract (lk 2 rfl rfl) rfl) ?_
      refine S.sil 11 rfl rfl (fun _ hF => .assign (lk 2 rfl rfl)) ?_
      refine S.sil 12 rfl rfl (fun _ hF => .assign (lk 2 rfl rfl)) ?_
      refine S.sil 13 rfl rfl (fun _ hF => .assign (lk 2 rfl rfl)) ?_
      refine S.nil ?_
      refine thenQ_n ?_
      refine AWp.prune (.eq (lk 0 rfl rfl) rfl (.eq (lk 19 rfl rfl) rfl (.eq (lk 20 rfl rfl) rfl (.eq (lk 21 rfl rfl) rfl (.eq (lk 22 rfl rfl) rfl (.eq (lk 23 rfl rfl) rfl (.eq (lk 24 rfl rfl) rfl .nil))))))) ?_
      refine AWp.seq ?_
      refine W.reg [0, 1, 2, 3, 4, 5, 6, 7, 8, 9, 10] rfl ?_
      refine S.sil 55 rfl rfl (fun _ hF => .move (lk 3 rfl rfl)) ?_
      refine S.sil 56 rfl rfl (fun _ hF => .move (lk 5 rfl rfl)) ?_
      refine S.sil 57 rfl rfl (fun _ hF => .move (lk 7 rfl rfl)) ?_
      obtain ⟨r11, m11, h⟩ := h.bnd
      refine S.sil 58 rfl rfl (fun _ hF => .callQ ent23 cF (.c (lk 2 rfl rfl) (V.sub.refl _) (.c (lk 1 rfl rfl) (V.sub.refl _) (.c (lk 0 rfl rfl) (V.sub.refl _) (.c cI (V.sub.refl _) .nil)))) (C_hold_End m11)) ?_
      refine S.sil 54 rfl rfl (fun _ hF => .move (lk 0 rfl rfl)) ?_
      refine S.sil 59 rfl rfl (fun _ hF => .extract (lk 0 rfl rfl) rfl) ?_
      refine S.sil 60 rfl rfl (fun _ hF => .extract (lk 1 rfl rfl) rfl) ?_
      refine S.sil 61 rfl rfl (fun _ hF => .extract (lk 2 rfl rfl) rfl) ?_
      refine S.sil 14 rfl rfl (fun _ hF => .assign (lk 2 rfl rfl)) ?_
      refine S.sil 15 rfl rfl (fun _ hF => .assign (lk 2 rfl rfl)) ?_
      refine S.sil 16 rfl rfl (fun _ hF => .assign (lk 2 rfl rfl)) ?_
      refine S.nil ?_
      refine thenQ_n ?_
      refine AWp.prune (.eq (lk 0 rfl rfl) rfl (.eq (lk 11 rfl rfl) rfl (.eq (lk 12 rfl rfl) rfl (.eq (lk 13 rfl rfl) rfl (.eq (lk 14 rfl rfl) rfl (.eq (lk 15 rfl rfl) rfl (.eq (lk 16 rfl rfl) rfl (.eq (lk 17 rfl rfl) rfl .nil)))))))) ?_
      refine AWp.seq ?_
      refine W.reg [0, 1, 2, 3, 4, 5, 6, 7, 8] rfl ?_
      refine S.sil 63 rfl rfl (fun _ hF => .move (lk 4 rfl rfl)) ?_
      refine S.sil 64 rfl rfl (fun _ hF => .move (lk 6 rfl rfl)) ?_
      refine S.sil 65 rfl rfl (fun _ hF => .move (lk 9 rfl rfl)) ?_
      obtain ⟨r12, m12, h⟩ := h.bnd
      refine S.sil 66 rfl rfl (fun _ hF => .callQ ent12 cF (.c (lk 2 rfl rfl) (V.sub.refl _) (.c (lk 1 rfl rfl) (V.sub.refl _) (.c (lk 0 rfl rfl) (V.sub.refl _) .nil))) (C_hold_Expire m12)) ?_
      refine S.sil 62 rfl rfl (fun _ hF => .move (lk 0 rfl rfl)) ?_
      refine S.sil 67 rfl rfl (fun _ hF => .extract (lk 0 rfl rfl) rfl) ?_
      refine S.sil 68 rfl rfl (fun _ hF => .extract (lk 1 rfl rfl) rfl) ?_
      refine S.sil 17 rfl rfl (fun _ hF => .assign (lk 1 rfl rfl)) ?_
      refine S.sil 18 rfl rfl (fun _ hF => .assign (lk 1 rfl rfl)) ?_
      refine S.nil ?_
      refine thenQ_n ?_
      refine AWp.prune (.eq (lk 1 rfl rfl) rfl (.eq (lk 9 rfl rfl) rfl (.eq (lk 10 rfl rfl) rfl (.eq (lk 11 rfl rfl) rfl (.eq (lk 12 rfl rfl) rfl (.eq (lk 14 rfl rfl) rfl (.eq (lk 15 rfl rfl) rfl .nil))))))) ?_
      refine AWp.seq ?_
      refine W.reg [0, 1, 2, 3, 4, 5, 6, 7, 8, 9] rfl ?_
      refine S.sil 70 rfl rfl (fun _ hF => .move (lk 0 rfl rfl)) ?_
      refine S.sil 71 rfl rfl (fun _ hF => .move (lk 6 rfl rfl)) ?_
      refine S.sil 72 rfl rfl (fun _ hF => .move (lk 8 rfl rfl)) ?_
      obtain ⟨r13, m13, h⟩ := h.bnd
      refine S.sil 73 rfl rfl (fun _ hF => .callQ ent16 cF (.c (lk 2 rfl rfl) (V.sub.refl _) (.c (lk 1 rfl rfl) (V.sub.refl _) (.c (lk 0 rfl rfl) (V.sub.refl _) .nil))) (C_hold_Find m13)) ?_
      refine S.sil 69 rfl rfl (fun _ hF => .move (lk 0 rfl rfl)) ?_
      refine S.sil 74 rfl rfl (fun _ hF => .extract (lk 0 rfl rfl) rfl) ?_
      refine S.sil 75 rfl rfl (fun _ hF => .extract (lk 1 rfl rfl) rfl) ?_
      refine S.eff 19 rfl rfl (.nf (v2 := .ptr 1 [] 0) (H2 := [.dead, .cells (E_THold (default : THold))]) (.alloc zv29) rfl rfl) trivial ?_
      refine S.effN rfl rfl (.nf (H2 := [.dead, .cells (E_THold r13.1)]) (.storeP sz29 (lk 0 rfl rfl) (lk 2 rfl rfl) rfl (.refl _) rfl .nil (by first | rfl | omega) .nil (ty_THold.fl r13.1) (ty_THold.fl (default : THold)) rfl) rfl rfl) trivial ?_
      refine S.sil 20 rfl rfl (fun _ hF => .assign (lk 1 rfl rfl)) ?_
      refine S.nil ?_
      refine thenQ_n ?_
      refine AWp.wk (Wk.freeze 1 rfl rfl (.same (lk 0 rfl rfl) (.cons (lk 1 rfl rfl) rfl (.ptr .nil (by first | rfl | omega)) (.same (lk 10 rfl rfl) (.same (lk 11 rfl rfl) (.same (lk 12 rfl rfl) (.same (lk 13 rfl rfl) .nil)))))) (.refl _)) ?_
      refine AWp.seq ?_
      refine W.reg [0, 1, 2, 3, 4, 5, 6, 7, 8, 9, 10, 11, 12, 13, 14, 15, 16, 17] rfl ?_
      refine S.sil 76 rfl rfl (fun _ hF => .move (lk 3 rfl rfl)) ?_
      refine S.sil 77 rfl rfl (fun _ hF => .eql (lk 0 rfl rfl) cI) ?_
      refine S.sil 78 rfl rfl (fun _ hF => .move (lk 0 rfl rfl)) ?_
      refine S.gsil 79 2 78 true rfl rfl rfl (lk 0 rfl rfl) (fun hB _ hF => .move (lk 5 rfl rfl)) ?_
      refine S.gsil 80 2 78 true rfl rfl rfl (lk 1 rfl rfl) (fun hB _ hF => .eql (ifT hB (lk 0 rfl rfl)) cI) ?_
      refine S.sil 81 rfl rfl (fun _ hF => .pickAnd (lk 2 rfl rfl) (fun h => ifT h (lk 0 rfl rfl)) cB) ?_
      refine S.sil 82 rfl rfl (fun _ hF => .move (lk 0 rfl rfl)) ?_
      refine S.gsil 83 6 82 true rfl rfl rfl (lk 0 rfl rfl) (fun hB _ hF => .loadC sz29 ag29 (lk 8 rfl rfl) (ty_THold.fl r13.1) rfl) ?_
      refine S.gsil 84 6 82 true rfl rfl rfl (lk 1 rfl rfl) (fun hB _ hF => .loadC sz29 ag29 (lk 12 rfl rfl) (ty_THold.fl r8.1) rfl) ?_
      refine S.gsil 85 6 82 true rfl rfl rfl (lk 2 rfl rfl) (fun hB _ hF => .eqlT eqt29 eqk_THold shk_THold (ifT hB (lk 1 rfl rfl)) (ifT hB (lk 0 rfl rfl)) rfl rfl) ?_
      obtain ⟨v14, ev14, h⟩ := h.nam
      refine S.sil 86 rfl rfl (fun _ hF => .nv (.pickAnd (lk 3 rfl rfl) (fun h => ifT h (lk 0 rfl rfl)) cB) (congrArg V.bool ev14.symm)) ?_
      refine S.sil 87 rfl rfl (fun _ hF => .move (lk 0 rfl rfl)) ?_
      refine S.gsil 88 11 87 true rfl rfl rfl (lk 0 rfl rfl) (fun hB _ hF => .move (lk 12 rfl rfl)) ?_
      refine S.sil 89 rfl rfl (fun _ hF => .pickAnd (lk 1 rfl rfl) (fun h => ifT h (lk 0 rfl rfl)) cB) ?_
      refine S.sil 90 rfl rfl (fun _ hF => .move (lk 0 rfl rfl)) ?_
      obtain ⟨r15, m15, h⟩ := h.bnd
      refine S.gsil 91 14 90 true rfl rfl rfl (lk 0 rfl rfl) (fun hB _ hF => .callQ ent11 cF .nil (C_usufructlaw06_awake (gd_get m15 hB))) ?_
      refine S.sil 92 rfl rfl (fun _ hF => .pickAnd (lk 1 rfl rfl) (fun h => ifT h (lk 0 rfl rfl)) cB) ?_
      refine S.sil 8 rfl rfl (fun _ hF => .assign (lk 0 rfl rfl)) ?_
      refine S.nil ?_
      refine thenQ_n ?_
      refine AWp.prune (.eq (lk 0 rfl rfl) rfl .nil) ?_
      refine AWp.ret ?_
      obtain rfl := h.ret
      exact endF1 rfl (Wk.selS [] .nil rfl (SelE.leaf (lk 0 rfl rfl) rfl (.refl _) (fun m => (TyOk.bool.lt _ _)) .nil) .nil) (.tmp (lk 0 rfl rfl) rfl) rfl rfl
theorem C_usufructlaw06_HoldNew {a1 : List THold} {a2 : Int} {a3 : Int} {a4 : Int} {a5 : Bool} {r : Bool} (h : usufructlaw06_HoldNew a1 a2 a3 a4 a5 = some r) : PureC Pg 9 [.sl 5 .no (List.map E_THold a1), (V.int .i64) a2, (V.int .i64) a3, (V.int .i64) a4, V.bool a5] (V.bool r) := by
  refine PureC.ofF (CallSpec.of_bodyF 156 0 Try.func9 rfl rfl rfl (Nat.le_of_ble_eq_true rfl) ?_) (ltL_c (lt_sl rfl (ty_THold.ltm _ _)) (ltL_c ((TyOk.int .i64).lt _ _) (ltL_c ((TyOk.int .i64).lt _ _) (ltL_c ((TyOk.int .i64).lt _ _) (ltL_c (TyOk.bool.lt _ _) ltL_nil))))) (TyOk.bool.lt _ _)
  replace h := Ok.of h
  unfold usufructlaw06_HoldNew at h
  refine AWp.seq ?_
  refine W.reg [0] rfl ?_
  refine S.sil 10 rfl rfl (fun _ hF => .assign cB) ?_
  refine S.nil ?_
  refine thenQ_n ?_
  refine AWp.seq ?_
  refine AWp.seq ?_
  refine W.reg [0, 1, 2, 3, 4, 5, 6, 7, 8, 9, 10, 11, 12] rfl ?_
  refine S.sil 24 rfl rfl (fun _ hF => .move (lk 1 rfl rfl)) ?_
  refine S.sil 25 rfl rfl (fun _ hF => .buildSliceW sli44 zv22 rfl rfl (by decide) (.cons (lk 0 rfl rfl) rfl (.refl _) rfl .nil)) ?_
  obtain ⟨r6, m6, h⟩ := h.bnd
  refine S.sil 26 rfl rfl (fun _ hF => .callQ ent10 cF (.c (lk 0 rfl rfl) (vsub rfl (.forget _ _ _)) .nil) (C_usufructlaw06_Few m6)) ?_
  refine S.sil 27 rfl rfl (fun _ hF => .not (lk 0 rfl rfl)) ?_
  refine S.sil 28 rfl rfl (fun _ hF => .move (lk 0 rfl rfl)) ?_
  refine S.gsil 29 4 28 false rfl rfl rfl (lk 0 rfl rfl) (fun hB _ hF => .move (lk 6 rfl rfl)) ?_
  obtain ⟨r7, m7, h⟩ := h.bnd
  refine S.gsil 30 4 28 false rfl rfl rfl (lk 1 rfl rfl) (fun hB _ hF => .callQ ent18 cF (.c (ifT hB (lk 0 rfl rfl)) (V.sub.refl _) .nil) (C_usufructref06_Rights (gd_get m7 hB))) ?_
  refine S.gsil 31 4 28 false rfl rfl rfl (lk 2 rfl rfl) (fun hB _ hF => .not (ifT hB (lk 0 rfl rfl))) ?_
  refine S.sil 32 rfl rfl (fun _ hF => .pickOr (lk 3 rfl rfl) cB (fun h => ifT h (lk 0 rfl rfl))) ?_
  refine S.sil 33 rfl rfl (fun _ hF => .move (lk 0 rfl rfl)) ?_
  refine S.gsil 34 9 33 false rfl rfl rfl (lk 0 rfl rfl) (fun hB _ hF => .move (lk 13 rfl rfl)) ?_
  refine S.gsil 35 9 33 false rfl rfl rfl (lk 1 rfl rfl) (fun hB _ hF => .gtr (ifT hB (lk 0 rfl rfl)) cI) ?_
  refine S.sil 36 rfl rfl (fun _ hF => .pickOr (lk 2 rfl rfl) cB (fun h => ifT h (lk 0 rfl rfl))) ?_
  refine S.nil ?_
  refine thenQ_n ?_
  refine AWp.prune (.eq (lk 0 rfl rfl) rfl (.eq (lk 13 rfl rfl) rfl (.eq (lk 14 rfl rfl) rfl (.eq (lk 15 rfl rfl) rfl (.eq (lk 16 rfl rfl) rfl (.eq (lk 17 rfl rfl) rfl (.eq (lk 18 rfl rfl) rfl .nil))))))) ?_
  refine AWp.condM (lk 0 rfl rfl) h (fun c1 h => ?_) (fun c1 h => ?_)
  · skip
    refine AWp.seq ?_
    refine W.reg [0, 1] rfl ?_
    obtain ⟨r8, m8, h⟩ := h.bnd
    refine S.sil 37 rfl rfl (fun _ hF => .callQ ent11 cF .nil (C_usufructlaw06_awake m8)) ?_
    refine S.sil 10 rfl rfl (fun _ hF => .assign (lk 0 rfl rfl)) ?_
    refine S.nil ?_
    refine thenQ_n ?_
    refine AWp.ret ?_
    refine thenQ_r ?_
    obtain rfl := h.ret
    exact endF1 rfl (Wk.selS [] .nil rfl (SelE.leaf (lk 0 rfl rfl) rfl (.refl _) (fun m => (TyOk.bool.lt _ _)) .nil) .nil) (.tmp (lk 0 rfl rfl) rfl) rfl rfl
  · skip
    refine AWp.skip ?_
    refine thenQ_n ?_
    refine AWp.seq ?_
    refine AWp.seq ?_
    refine W.reg [0, 1, 2] rfl ?_
    refine S.sil 38 rfl rfl (fun _ hF => .move (lk 2 rfl rfl)) ?_
    refine S.sil 39 rfl rfl (fun _ hF => .lenT sli22 (lk 0 rfl rfl) (vsub rfl (.refl _))) ?_
    refine S.sil 40 rfl rfl (fun _ hF => .move cI) ?_
    refine S.nil ?_
    refine thenQ_n ?_
    refine AWp.cutL (fun x11 => ⟨[(10, V.bool false), (0, .sl 5 .no (List.map E_THold a1)), (1, (V.int .i64) a2), (2, (V.int .i64) a3), (3, (V.int .i64) a4), (4, V.bool a5)], []⟩) nc_then h (fun q9 hq9 h => ?_) (fun x11 h => ?_)
    · refine AWp.block ?_
      refine AWp.loopT (fun s10 => ⟨[(40, (V.int .i64) s10), (39, (V.int .i64) (a1.length : Int)), (38, .sl 5 .no (List.map E_THold a1)), (10, V.bool false), (0, .sl 5 .no (List.map E_THold a1)), (1, (V.int .i64) a2), (2, (V.int .i64) a3), (3, (V.int .i64) a4), (4, V.bool a5)], []⟩) hq9 (Wk.selS [] (by decide) rfl (SelE.leaf (lk 0 rfl rfl) rfl (.refl _) (fun m => ((TyOk.int .i64).lt _ _)) (SelE.leaf (lk 1 rfl rfl) rfl (.refl _) (fun m => ((TyOk.int .i64).lt _ _)) (SelE.leaf (lk 2 rfl rfl) rfl (.refl _) (fun m => (lt_sl rfl (ty_THold.ltm _ _))) (SelE.leaf (lk 4 rfl rfl) rfl (.refl _) (fun m => (TyOk.bool.lt _ _)) (SelE.leaf (lk 5 rfl rfl) rfl (.refl _) (fun m => (lt_sl rfl (ty_THold.ltm _ _))) (SelE.leaf (lk 6 rfl rfl) rfl (.refl _) (fun m => ((TyOk.int .i64).lt _ _)) (SelE.leaf (lk 7 rfl rfl) rfl (.refl _) (fun m => ((TyOk.int .i64).lt _ _)) (SelE.leaf (lk 8 rfl rfl) rfl (.refl _) (fun m => ((TyOk.int .i64).lt _ _)) (SelE.leaf (lk 9 rfl rfl) rfl (.refl _) (fun m => (TyOk.bool.lt _ _)) .nil))))))))) .nil) (fun _ s10 h9 => ?_)
      rw [usufructlaw06_HoldNew_L1] at h9
      refine AWp.seq ?_
      refine W.reg [0] rfl ?_
      refine S.sil 41 rfl rfl (fun _ hF => .lss (lk 0 rfl rfl) (lk 1 rfl rfl)) ?_
      refine S.nil ?_
      refine thenQ_n ?_
      refine AWp.seq ?_
      refine AWp.condM (lk 0 rfl rfl) h9 (fun c2 h9 => ?_) (fun c2 h9 => ?_)
      · skip
        refine AWp.skip ?_
        refine thenQ_n ?_
        refine AWp.seq ?_
        refine AWp.block ?_
        refine AWp.seq ?_
        refine W.reg [0, 1, 2, 3] rfl ?_
        obtain ⟨j12, m12, h9⟩ := h9.bnd
        refine S.sil 42 rfl rfl (fun _ hF => .ixS sli22 (lk 3 rfl rfl) (lk 1 rfl rfl) m12) ?_
        obtain ⟨v13, ev13, h9⟩ := h9.nam
        refine S.sil 43 rfl rfl (fun _ hF => .nv (.loadC sz29 ag29 (lk 0 rfl rfl) (ty_THold.fl (a1.getD j12 default)) rfl) (congrArg E_THold ev13.symm)) ?_
        refine S.eff 12 rfl rfl (.nf (v2 := .ptr 0 [] 0) (H2 := [.cells (E_THold (default : THold))]) (.alloc zv29) rfl rfl) trivial ?_
        refine S.effN rfl rfl (.nf (H2 := [.cells (E_THold v13)]) (.storeP sz29 (lk 0 rfl rfl) (lk 1 rfl rfl) rfl (.refl _) rfl .nil (by first | rfl | omega) .nil (ty_THold.fl v13) (ty_THold.fl (default : THold)) rfl) rfl rfl) trivial ?_
        refine S.nil ?_
        refine thenQ_n ?_
        refine AWp.wk (Wk.freeze 0 rfl rfl (.cons (lk 0 rfl rfl) rfl (.ptr .nil (by first | rfl | omega)) (.same (lk 1 rfl rfl) (.same (lk 2 rfl rfl) (.same (lk 3 rfl rfl) (.same (lk 4 rfl rfl) (.same (lk 5 rfl rfl) (.same (lk 6 rfl rfl) (.same (lk 7 rfl rfl) (.same (lk 8 rfl rfl) (.same (lk 9 rfl rfl) (.same (lk 10 rfl rfl) (.same (lk 11 rfl rfl) (.same (lk 12 rfl rfl) .nil))))))))))))) (.refl _)) ?_
        refine AWp.seq ?_
        refine W.reg [0, 1, 2] rfl ?_
        refine S.sil 44 rfl rfl (fun _ hF => .fieldAddrC lay29 rfl rfl (lk 0 rfl rfl) rfl (flL_c rfl (flL_c rfl flL_nil))) ?_
        refine S.sil 45 rfl rfl (fun _ hF => .loadC sz3 ag3 (lk 0 rfl rfl) rfl rfl) ?_
        refine S.sil 46 rfl rfl (fun _ hF => .gtr (lk 0 rfl rfl) cI) ?_
        refine S.nil ?_
        refine thenQ_n ?_
        refine AWp.condM (lk 0 rfl rfl) h9 (fun c3 h9 => ?_) (fun c3 h9 => ?_)
        · skip
          refine AWp.seq ?_
          refine W.reg [0, 1] rfl ?_
          obtain ⟨r14, m14, h9⟩ := h9.bnd
          refine S.sil 47 rfl rfl (fun _ hF => .callQ ent11 cF .nil (C_usufructlaw06_awake m14)) ?_
          refine S.sil 10 rfl rfl (fun _ hF => .assign (lk 0 rfl rfl)) ?_
          refine S.nil ?_
          refine thenQ_n ?_
          refine AWp.ret ?_
          refine blockQ_r ?_
          refine thenQ_r ?_
          refine thenQ_r ?_
          refine blockQ_r ?_
          refine thenQ_r ?_
          refine thenQ_r ?_
          have h := Ok.inrq h h9.ret
          obtain rfl := h.ret
          exact endF1 rfl (Wk.selS [] .nil rfl (SelE.leaf (lk 0 rfl rfl) rfl (.refl _) (fun m => (TyOk.bool.lt _ _)) .nil) .nil) (.tmp (lk 0 rfl rfl) rfl) rfl rfl
        · skip
          refine AWp.skip ?_
          refine blockQ_n ?_
          refine thenQ_n ?_
          refine W.reg [0, 1] rfl ?_
          refine S.sil 48 rfl rfl (fun _ hF => .add (lk 7 rfl rfl) cI) ?_
          refine S.sil 40 rfl rfl (fun _ hF => .move (lk 0 rfl rfl)) ?_
          refine S.nil ?_
          refine thenQ_n ?_
          exact ⟨_, h9.ret, (Wk.selS [] (by decide) rfl (SelE.leaf (lk 0 rfl rfl) rfl (.refl _) (fun m => ((TyOk.int .i64).lt _ _)) (SelE.leaf (lk 10 rfl rfl) rfl (.refl _) (fun m => ((TyOk.int .i64).lt _ _)) (SelE.leaf (lk 11 rfl rfl) rfl (.refl _) (fun m => (lt_sl rfl (ty_THold.ltm _ _))) (SelE.leaf (lk 12 rfl rfl) rfl (.refl _) (fun m => (TyOk.bool.lt _ _)) (SelE.leaf (lk 13 rfl rfl) rfl (.refl _) (fun m => (lt_sl rfl (ty_THold.ltm _ _))) (SelE.leaf (lk 14 rfl rfl) rfl (.refl _) (fun m => ((TyOk.int .i64).lt _ _)) (SelE.leaf (lk 15 rfl rfl) rfl (.refl _) (fun m => ((TyOk.int .i64).lt _ _)) (SelE.leaf (lk 16 rfl rfl) rfl (.refl _) (fun m => ((TyOk.int .i64).lt _ _)) (SelE.leaf (lk 17 rfl rfl) rfl (.refl _) (fun m => (TyOk.bool.lt _ _)) .nil))))))))) .nil)⟩
      · skip
        refine AWp.exit ?_
        refine thenQ_x ?_
        refine thenQ_x ?_
        refine blockQ_x ?_
        refine thenQ_n ?_
        exact ⟨_, h9.ret, (Wk.selS [] (by decide) rfl (SelE.leaf (lk 4 rfl rfl) rfl (.refl _) (fun m => (TyOk.bool.lt _ _)) (SelE.leaf (lk 5 rfl rfl) rfl (.refl _) (fun m => (lt_sl rfl (ty_THold.ltm _ _))) (SelE.leaf (lk 6 rfl rfl) rfl (.refl _) (fun m => ((TyOk.int .i64).lt _ _)) (SelE.leaf (lk 7 rfl rfl) rfl (.refl _) (fun m => ((TyOk.int .i64).lt _ _)) (SelE.leaf (lk 8 rfl rfl) rfl (.refl _) (fun m => ((TyOk.int .i64).lt _ _)) (SelE.leaf (lk 9 rfl rfl) rfl (.refl _) (fun m => (TyOk.bool.lt _ _)) .nil)))))) .nil)⟩
    · skip
      refine thenQ_n ?_
      refine AWp.seq ?_
      refine W.reg [0, 1, 2, 3, 4, 5, 6, 7, 8, 9, 10, 11] rfl ?_
      refine S.sil 50 rfl rfl (fun _ hF => .move (lk 1 rfl rfl)) ?_
      refine S.sil 51 rfl rfl (fun _ hF => .move (lk 3 rfl rfl)) ?_
      refine S.sil 52 rfl rfl (fun _ hF => .move (lk 5 rfl rfl)) ?_
      refine S.sil 53 rfl rfl (fun _ hF => .move (lk 7 rfl rfl)) ?_
      obtain ⟨r15, m15, h⟩ := h.bnd
      refine S.sil 54 rfl rfl (fun _ hF => .callQ ent21 cF (.c (lk 3 rfl rfl) (V.sub.refl _) (.c (lk 2 rfl rfl) (V.sub.refl _) (.c (lk 1 rfl rfl) (V.sub.refl _) (.c (lk 0 rfl rfl) (V.sub.refl _) .nil)))) (C_hold_Reserve m15)) ?_
      refine S.sil 49 rfl rfl (fun _ hF => .move (lk 0 rfl rfl)) ?_
      refine S.sil 55 rfl rfl (fun _ hF => .extract (lk 0 rfl rfl) rfl) ?_
      refine S.sil 56 rfl rfl (fun _ hF => .extract (lk 1 rfl rfl) rfl) ?_
      refine S.sil 57 rfl rfl (fun _ hF => .extract (lk 2 rfl rfl) rfl) ?_
      refine S.sil 13 rfl rfl (fun _ hF => .assign (lk 2 rfl rfl)) ?_
      refine S.sil 14 rfl rfl (fun _ hF => .assign (lk 2 rfl rfl)) ?_
      refine S.sil 15 rfl rfl (fun _ hF => .assign (lk 2 rfl rfl)) ?_
      refine S.nil ?_
      refine thenQ_n ?_
      refine AWp.seq ?_
      refine AWp.seq ?_
      refine W.reg [0, 1] rfl ?_
      refine S.sil 58 rfl rfl (fun _ hF => .move (lk 0 rfl rfl)) ?_
      refine S.sil 59 rfl rfl (fun _ hF => .neq (lk 0 rfl rfl) cI) ?_
      refine S.nil ?_
      refine thenQ_n ?_
      refine AWp.prune (.eq (lk 0 rfl rfl) rfl (.eq (lk 3 rfl rfl) rfl (.eq (lk 4 rfl rfl) rfl (.eq (lk 14 rfl rfl) rfl (.eq (lk 15 rfl rfl) rfl (.eq (lk 16 rfl rfl) rfl (.eq (lk 17 rfl rfl) rfl (.eq (lk 18 rfl rfl) rfl (.eq (lk 19 rfl rfl) rfl .nil))))))))) ?_
      refine AWp.condM (lk 0 rfl rfl) h (fun c4 h => ?_) (fun c4 h => ?_)
      · skip
        refine AWp.seq ?_
        refine W.reg [0, 1, 2, 3, 4, 5, 6, 7, 8, 9, 10] rfl ?_
        refine S.sil 60 rfl rfl (fun _ hF => .move (lk 2 rfl rfl)) ?_
        refine S.sil 61 rfl rfl (fun _ hF => .lenT sli22 (lk 0 rfl rfl) (vsub rfl (.refl _))) ?_
        refine S.sil 62 rfl rfl (fun _ hF => .eql (lk 0 rfl rfl) cI) ?_
        refine S.sil 63 rfl rfl (fun _ hF => .move (lk 0 rfl rfl)) ?_
        refine S.gsil 64 3 63 true rfl rfl rfl (lk 0 rfl rfl) (fun hB _ hF => .move (lk 5 rfl rfl)) ?_
        refine S.gsil 65 3 63 true rfl rfl rfl (lk 1 rfl rfl) (fun hB _ hF => .eql (ifT hB (lk 0 rfl rfl)) cI) ?_
        refine S.sil 66 rfl rfl (fun _ hF => .pickAnd (lk 2 rfl rfl) (fun h => ifT h (lk 0 rfl rfl)) cB) ?_
        refine S.sil 67 rfl rfl (fun _ hF => .move (lk 0 rfl rfl)) ?_
        obtain ⟨r16, m16, h⟩ := h.bnd
        refine S.gsil 68 7 67 true rfl rfl rfl (lk 0 rfl rfl) (fun hB _ hF => .callQ ent11 cF .nil (C_usufructlaw06_awake (gd_get m16 hB))) ?_
        obtain ⟨v17, ev17, h⟩ := h.nam
        refine S.sil 69 rfl rfl (fun _ hF => .nv (.pickAnd (lk 1 rfl rfl) (fun h => ifT h (lk 0 rfl rfl)) cB) (congrArg V.bool ev17.symm)) ?_
        refine S.sil 10 rfl rfl (fun _ hF => .assign (lk 0 rfl rfl)) ?_
        refine S.nil ?_
        refine thenQ_n ?_
        refine AWp.prune (.eq (lk 0 rfl rfl) rfl (.eq (lk 12 rfl rfl) rfl (.eq (lk 13 rfl rfl) rfl (.eq (lk 15 rfl rfl) rfl (.eq (lk 16 rfl rfl) rfl (.eq (lk 17 rfl rfl) rfl (.eq (lk 18 rfl rfl) rfl (.eq (lk 19 rfl rfl) rfl .nil)))))))) ?_
        refine AWp.ret ?_
        refine thenQ_r ?_
        obtain rfl := h.ret
        exact endF1 rfl (Wk.selS [] .nil rfl (SelE.leaf (lk 0 rfl rfl) rfl (.refl _) (fun m => (TyOk.bool.lt _ _)) .nil) .nil) (.tmp (lk 0 rfl rfl) rfl) rfl rfl
      · skip
        refine AWp.skip ?_
        refine thenQ_n ?_
        refine AWp.seq ?_
        refine W.reg [0, 1, 2, 3, 4, 5, 6, 7, 8, 9] rfl ?_
        refine S.sil 71 rfl rfl (fun _ hF => .move (lk 4 rfl rfl)) ?_
        refine S.sil 72 rfl rfl (fun _ hF => .move (lk 6 rfl rfl)) ?_
        refine S.sil 73 rfl rfl (fun _ hF => .move (lk 3 rfl rfl)) ?_
        obtain ⟨r18, m18, h⟩ := h.bnd
        refine S.sil 74 rfl rfl (fun _ hF => .callQ ent16 cF (.c (lk 2 rfl rfl) (V.sub.refl _) (.c (lk 1 rfl rfl) (V.sub.refl _) (.c (lk 0 rfl rfl) (V.sub.refl _) .nil))) (C_hold_Find m18)) ?_
        refine S.sil 70 rfl rfl (fun _ hF => .move (lk 0 rfl rfl)) ?_
        refine S.sil 75 rfl rfl (fun _ hF => .extract (lk 0 rfl rfl) rfl) ?_
        refine S.sil 76 rfl rfl (fun _ hF => .extract (lk 1 rfl rfl) rfl) ?_
        refine S.eff 16 rfl rfl (.nf (v2 := .ptr 0 [] 0) (H2 := [.cells (E_THold (default : THold))]) (.alloc zv29) rfl rfl) trivial ?_
        refine S.effN rfl rfl (.nf (H2 := [.cells (E_THold r18.1)]) (.storeP sz29 (lk 0 rfl rfl) (lk 2 rfl rfl) rfl (.refl _) rfl .nil (by first | rfl | omega) .nil (ty_THold.fl r18.1) (ty_THold.fl (default : THold)) rfl) rfl rfl) trivial ?_
        refine S.sil 17 rfl rfl (fun _ hF => .assign (lk 1 rfl rfl)) ?_
        refine S.nil ?_
        refine thenQ_n ?_
        refine AWp.wk (Wk.freeze 0 rfl rfl (.same (lk 0 rfl rfl) (.same (lk 10 rfl rfl) (.same (lk 11 rfl rfl) (.same (lk 12 rfl rfl) (.same (lk 13 rfl rfl) (.same (lk 14 rfl rfl) (.same (lk 15 rfl rfl) (.same (lk 16 rfl rfl) (.same (lk 17 rfl rfl) .nil))))))))) (.refl _)) ?_
        refine AWp.seq ?_
        refine W.reg [0, 1, 2, 3, 4, 5, 6, 7, 8, 9] rfl ?_
        refine S.sil 78 rfl rfl (fun _ hF => .move (lk 2 rfl rfl)) ?_
        refine S.sil 79 rfl rfl (fun _ hF => .move (lk 6 rfl rfl)) ?_
        refine S.sil 80 rfl rfl (fun _ hF => .move (lk 3 rfl rfl)) ?_
        obtain ⟨r19, m19, h⟩ := h.bnd
        refine S.sil 81 rfl rfl (fun _ hF => .callQ ent16 cF (.c (lk 2 rfl rfl) (V.sub.refl _) (.c (lk 1 rfl rfl) (V.sub.refl _) (.c (lk 0 rfl rfl) (V.sub.refl _) .nil))) (C_hold_Find m19)) ?_
        refine S.sil 77 rfl rfl (fun _ hF => .move (lk 0 rfl rfl)) ?_
        refine S.sil 82 rfl rfl (fun _ hF => .extract (lk 0 rfl rfl) rfl) ?_
        refine S.sil 83 rfl rfl (fun _ hF => .extract (lk 1 rfl rfl) rfl) ?_
        refine S.eff 18 rfl rfl (.nf (v2 := .ptr 1 [] 0) (H2 := [.dead, .cells (E_THold (default : THold))]) (.alloc zv29) rfl rfl) trivial ?_
        refine S.effN rfl rfl (.nf (H2 := [.dead, .cells (E_THold r19.1)]) (.storeP sz29 (lk 0 rfl rfl) (lk 2 rfl rfl) rfl (.refl _) rfl .nil (by first | rfl | omega) .nil (ty_THold.fl r19.1) (ty_THold.fl (default : THold)) rfl) rfl rfl) trivial ?_
        refine S.sil 19 rfl rfl (fun _ hF => .assign (lk 1 rfl rfl)) ?_
        refine S.nil ?_
        refine thenQ_n ?_
        refine AWp.wk (Wk.freeze 1 rfl rfl (.same (lk 0 rfl rfl) (.cons (lk 1 rfl rfl) rfl (.ptr .nil (by first | rfl | omega)) (.same (lk 9 rfl rfl) (.same (lk 10 rfl rfl) (.same (lk 11 rfl rfl) (.same (lk 12 rfl rfl) (.same (lk 13 rfl rfl) (.same (lk 14 rfl rfl) (.same (lk 15 rfl rfl) (.same (lk 16 rfl rfl) (.same (lk 17 rfl rfl) .nil))))))))))) (.refl _)) ?_
        refine AWp.seq ?_
        refine W.reg [0] rfl ?_
        refine S.sil 20 rfl rfl (fun _ hF => .assign cI) ?_
        refine S.nil ?_
        refine thenQ_n ?_
        refine AWp.seq ?_
        refine AWp.seq ?_
        refine W.reg [0] rfl ?_
        refine S.sil 84 rfl rfl (fun _ hF => .move (lk 11 rfl rfl)) ?_
        refine S.nil ?_
        refine thenQ_n ?_
        refine AWp.condM (lk 0 rfl rfl) h (fun c5 h => ?_) (fun c5 h => ?_)
        · skip
          refine W.reg [0] rfl ?_
          refine S.sil 20 rfl rfl (fun _ hF => .assign cI) ?_
          refine S.nil ?_
          refine thenQ_n ?_
          refine AWp.seq ?_
          refine W.reg [0, 1, 2, 3, 4, 5, 6, 7, 8, 9, 10, 11] rfl ?_
          refine S.sil 86 rfl rfl (fun _ hF => .move (lk 7 rfl rfl)) ?_
          refine S.sil 87 rfl rfl (fun _ hF => .move (lk 11 rfl rfl)) ?_
          refine S.sil 88 rfl rfl (fun _ hF => .move (lk 8 rfl rfl)) ?_
          refine S.sil 89 rfl rfl (fun _ hF => .move (lk 3 rfl rfl)) ?_
          obtain ⟨r20, m20, h⟩ := h.bnd
          refine S.sil 90 rfl rfl (fun _ hF => .callQ ent23 cF (.c (lk 3 rfl rfl) (V.sub.refl _) (.c (lk 2 rfl rfl) (V.sub.refl _) (.c (lk 1 rfl rfl) (V.sub.refl _) (.c (lk 0 rfl rfl) (V.sub.refl _) .nil)))) (C_hold_End m20)) ?_
          refine S.sil 85 rfl rfl (fun _ hF => .move (lk 0 rfl rfl)) ?_
          refine S.sil 91 rfl rfl (fun _ hF => .extract (lk 0 rfl rfl) rfl) ?_
          refine S.sil 92 rfl rfl (fun _ hF => .extract (lk 1 rfl rfl) rfl) ?_
          refine S.sil 93 rfl rfl (fun _ hF => .extract (lk 2 rfl rfl) rfl) ?_
          refine S.sil 21 rfl rfl (fun _ hF => .assign (lk 2 rfl rfl)) ?_
          refine S.sil 22 rfl rfl (fun _ hF => .assign (lk 2 rfl rfl)) ?_
          refine S.sil 23 rfl rfl (fun _ hF => .assign (lk 2 rfl rfl)) ?_
          refine S.nil ?_
          refine thenQ_n ?_
          refine AWp.prune (.eq (lk 0 rfl rfl) rfl (.eq (lk 1 rfl rfl) rfl (.eq (lk 2 rfl rfl) rfl (.eq (lk 15 rfl rfl) rfl (.eq (lk 16 rfl rfl) rfl (.eq (lk 17 rfl rfl) rfl (.eq (lk 18 rfl rfl) rfl (.eq (lk 19 rfl rfl) rfl (.eq (lk 20 rfl rfl) rfl (.eq (lk 21 rfl rfl) rfl (.eq (lk 22 rfl rfl) rfl (.eq (lk 23 rfl rfl) rfl (.eq (lk 24 rfl rfl) rfl .nil))))))))))))) ?_
          refine AWp.seq ?_
          refine W.reg [0, 1, 2, 3, 4, 5, 6, 7, 8, 9, 10, 11, 12, 13, 14, 15, 16, 17, 18, 19, 20, 21, 22, 23, 24, 25, 26, 27, 28, 29, 30, 31, 32, 33, 34, 35, 36, 37, 38, 39, 40, 41, 42, 43, 44, 45, 46, 47, 48, 49, 50, 51, 52, 53, 54, 55, 56, 57, 58, 59, 60, 61, 62] rfl ?_
          refine S.sil 94 rfl rfl (fun _ hF => .move (lk 5 rfl rfl)) ?_
          refine S.sil 95 rfl rfl (fun _ hF => .not (lk 0 rfl rfl)) ?_
          refine S.sil 96 rfl rfl (fun _ hF => .move (lk 0 rfl rfl)) ?_
          refine S.gsil 97 2 96 true rfl rfl rfl (lk 0 rfl rfl) (fun hB _ hF => .move (lk 6 rfl rfl)) ?_
          refine S.sil 98 rfl rfl (fun _ hF => .pickAnd (lk 1 rfl rfl) (fun h => ifT h (lk 0 rfl rfl)) cB) ?_
          refine S.sil 99 rfl rfl (fun _ hF => .move (lk 0 rfl rfl)) ?_
          refine S.gsil 100 5 99 true rfl rfl rfl (lk 0 rfl rfl) (fun hB _ hF => .loadC sz29 ag29 (lk 10 rfl rfl) (ty_THold.fl r19.1) rfl) ?_
          refine S.gsil 101 5 99 true rfl rfl rfl (lk 1 rfl rfl) (fun hB _ hF => .move (lk 17 rfl rfl)) ?_
          refine S.gsil 102 5 99 true rfl rfl rfl (lk 2 rfl rfl) (fun hB _ hF => .move (lk 14 rfl rfl)) ?_
          refine S.gsil 103 5 99 true rfl rfl rfl (lk 3 rfl rfl) (fun hB _ hF => .move (lk 20 rfl rfl)) ?_
          refine S.gsil 104 5 99 true rfl rfl rfl (lk 4 rfl rfl) (fun hB _ hF => .move (lk 22 rfl rfl)) ?_
          refine S.gsil 105 5 99 true rfl rfl rfl (lk 5 rfl rfl) (fun hB _ hF => .nv (v2 := E_THold (⟨a2, r15.2.1, a3, a4, 1⟩ : THold)) (.buildStW lay29 zv29 rfl (.cons (ifT hB (lk 3 rfl rfl)) rfl rfl rfl rfl (.cons (ifT hB (lk 2 rfl rfl)) rfl rfl rfl rfl (.cons (ifT hB (lk 1 rfl rfl)) rfl rfl rfl rfl (.cons (ifT hB (lk 0 rfl rfl)) rfl rfl rfl rfl (.cons cI rfl rfl rfl rfl .nil)))))) rfl) ?_
          refine S.gsil 106 5 99 true rfl rfl rfl (lk 6 rfl rfl) (fun hB _ hF => .eqlT eqt29 eqk_THold shk_THold (ifT hB (lk 5 rfl rfl)) (ifT hB (lk 0 rfl rfl)) rfl rfl) ?_
          obtain ⟨v21, ev21, h⟩ := h.nam
          refine S.sil 107 rfl rfl (fun _ hF => .nv (.pickAnd (lk 7 rfl rfl) (fun h => ifT h (lk 0 rfl rfl)) cB) (congrArg V.bool ev21.symm)) ?_
          refine S.sil 108 rfl rfl (fun _ hF => .move (lk 0 rfl rfl)) ?_
          refine S.gsil 109 14 108 true rfl rfl rfl (lk 0 rfl rfl) (fun hB _ hF => .move (lk 22 rfl rfl)) ?_
          refine S.gsil 110 14 108 true rfl rfl rfl (lk 1 rfl rfl) (fun hB _ hF => .lenT sli22 (ifT hB (lk 0 rfl rfl)) (vsub rfl (.refl _))) ?_
          refine S.gsil 111 14 108 true rfl rfl rfl (lk 2 rfl rfl) (fun hB _ hF => .move (lk 26 rfl rfl)) ?_
          refine S.gsil 112 14 108 true rfl rfl rfl (lk 3 rfl rfl) (fun hB _ hF => .lenT sli22 (ifT hB (lk 0 rfl rfl)) (vsub rfl (.refl _))) ?_
          refine S.gsil 113 14 108 true rfl rfl rfl (lk 4 rfl rfl) (fun hB _ hF => .add (ifT hB (lk 0 rfl rfl)) cI) ?_
          refine S.gsil 114 14 108 true rfl rfl rfl (lk 5 rfl rfl) (fun hB _ hF => .eql (ifT hB (lk 3 rfl rfl)) (ifT hB (lk 0 rfl rfl))) ?_
          obtain ⟨v22, ev22, h⟩ := h.nam
          refine S.sil 115 rfl rfl (fun _ hF => .nv (.pickAnd (lk 6 rfl rfl) (fun h => ifT h (lk 0 rfl rfl)) cB) (congrArg V.bool ev22.symm)) ?_
          refine S.sil 116 rfl rfl (fun _ hF => .move (lk 0 rfl rfl)) ?_
          refine S.gsil 117 22 116 true rfl rfl rfl (lk 0 rfl rfl) (fun hB _ hF => .move (lk 30 rfl rfl)) ?_
          refine S.gsil 118 22 116 true rfl rfl rfl (lk 1 rfl rfl) (fun hB _ hF => .move (lk 34 rfl rfl)) ?_
          obtain ⟨r23, m23, h⟩ := h.bnd
          refine S.gsil 119 22 116 true rfl rfl rfl (lk 2 rfl rfl) (fun hB _ hF => .callQ ent19 cF (.c (ifT hB (lk 1 rfl rfl)) (V.sub.refl _) (.c (ifT hB (lk 0 rfl rfl)) (V.sub.refl _) .nil)) (C_hold_Sum (gd_get m23 hB))) ?_
          refine S.gsil 120 22 116 true rfl rfl rfl (lk 3 rfl rfl) (fun hB _ hF => .move (lk 35 rfl rfl)) ?_
          refine S.gsil 121 22 116 true rfl rfl rfl (lk 4 rfl rfl) (fun hB _ hF => .move (lk 37 rfl rfl)) ?_
          obtain ⟨r24, m24, h⟩ := h.bnd
          refine S.gsil 122 22 116 true rfl rfl rfl (lk 5 rfl rfl) (fun hB _ hF => .callQ ent19 cF (.c (ifT hB (lk 1 rfl rfl)) (V.sub.refl _) (.c (ifT hB (lk 0 rfl rfl)) (V.sub.refl _) .nil)) (C_hold_Sum (gd_get m24 hB))) ?_
          refine S.gsil 123 22 116 true rfl rfl rfl (lk 6 rfl rfl) (fun hB _ hF => .move (lk 40 rfl rfl)) ?_
          refine S.gsil 124 22 116 true rfl rfl rfl (lk 7 rfl rfl) (fun hB _ hF => .add (ifT hB (lk 1 rfl rfl)) (ifT hB (lk 0 rfl rfl))) ?_
          refine S.gsil 125 22 116 true rfl rfl rfl (lk 8 rfl rfl) (fun hB _ hF => .eql (ifT hB (lk 5 rfl rfl)) (ifT hB (lk 0 rfl rfl))) ?_
          refine S.sil 126 rfl rfl (fun _ hF => .pickAnd (lk 9 rfl rfl) (fun h => ifT h (lk 0 rfl rfl)) cB) ?_
          refine S.sil 127 rfl rfl (fun _ hF => .move (lk 0 rfl rfl)) ?_
          refine S.gsil 128 33 127 true rfl rfl rfl (lk 0 rfl rfl) (fun hB _ hF => .move (lk 34 rfl rfl)) ?_
          refine S.gsil 129 33 127 true rfl rfl rfl (lk 1 rfl rfl) (fun hB _ hF => .eql (ifT hB (lk 0 rfl rfl)) cI) ?_
          obtain ⟨v25, ev25, h⟩ := h.nam
          refine S.sil 130 rfl rfl (fun _ hF => .nv (.pickAnd (lk 2 rfl rfl) (fun h => ifT h (lk 0 rfl rfl)) cB) (congrArg V.bool ev25.symm)) ?_
          refine S.sil 131 rfl rfl (fun _ hF => .move (lk 0 rfl rfl)) ?_
          refine S.gsil 132 37 131 true rfl rfl rfl (lk 0 rfl rfl) (fun hB _ hF => .move (lk 39 rfl rfl)) ?_
          refine S.gsil 133 37 131 true rfl rfl rfl (lk 1 rfl rfl) (fun hB _ hF => .move (lk 50 rfl rfl)) ?_
          refine S.gsil 134 37 131 true rfl rfl rfl (lk 2 rfl rfl) (fun hB _ hF => .eql (ifT hB (lk 1 rfl rfl)) (ifT hB (lk 0 rfl rfl))) ?_
          refine S.sil 135 rfl rfl (fun _ hF => .pickAnd (lk 3 rfl rfl) (fun h => ifT h (lk 0 rfl rfl)) cB) ?_
          refine S.sil 136 rfl rfl (fun _ hF => .move (lk 0 rfl rfl)) ?_
          refine S.gsil 137 42 136 true rfl rfl rfl (lk 0 rfl rfl) (fun hB _ hF => .move (lk 45 rfl rfl)) ?_
          refine S.gsil 138 42 136 true rfl rfl rfl (lk 1 rfl rfl) (fun hB _ hF => .move (lk 54 rfl rfl)) ?_
          obtain ⟨r26, m26, h⟩ := h.bnd
          refine S.gsil 139 42 136 true rfl rfl rfl (lk 2 rfl rfl) (fun hB _ hF => .callQ ent19 cF (.c (ifT hB (lk 1 rfl rfl)) (V.sub.refl _) (.c (ifT hB (lk 0 rfl rfl)) (V.sub.refl _) .nil)) (C_hold_Sum (gd_get m26 hB))) ?_
          refine S.gsil 140 42 136 true rfl rfl rfl (lk 3 rfl rfl) (fun hB _ hF => .move (lk 55 rfl rfl)) ?_
          refine S.gsil 141 42 136 true rfl rfl rfl (lk 4 rfl rfl) (fun hB _ hF => .move (lk 57 rfl rfl)) ?_
          obtain ⟨r27, m27, h⟩ := h.bnd
          refine S.gsil 142 42 136 true rfl rfl rfl (lk 5 rfl rfl) (fun hB _ hF => .callQ ent19 cF (.c (ifT hB (lk 1 rfl rfl)) (V.sub.refl _) (.c (ifT hB (lk 0 rfl rfl)) (V.sub.refl _) .nil)) (C_hold_Sum (gd_get m27 hB))) ?_
          refine S.gsil 143 42 136 true rfl rfl rfl (lk 6 rfl rfl) (fun hB _ hF => .eql (ifT hB (lk 3 rfl rfl)) (ifT hB (lk 0 rfl rfl))) ?_
          refine S.sil 144 rfl rfl (fun _ hF => .pickAnd (lk 7 rfl rfl) (fun h => ifT h (lk 0 rfl rfl)) cB) ?_
          refine S.sil 145 rfl rfl (fun _ hF => .move (lk 0 rfl rfl)) ?_
          refine S.gsil 146 51 145 true rfl rfl rfl (lk 0 rfl rfl) (fun hB _ hF => .move (lk 59 rfl rfl)) ?_
          obtain ⟨r28, m28, h⟩ := h.bnd
          refine S.gsil 147 51 145 true rfl rfl rfl (lk 1 rfl rfl) (fun hB _ hF => .callQ ent17 cF (.c (ifT hB (lk 0 rfl rfl)) (V.sub.refl _) .nil) (C_hold_Rights (gd_get m28 hB))) ?_
          refine S.sil 148 rfl rfl (fun _ hF => .pickAnd (lk 2 rfl rfl) (fun h => ifT h (lk 0 rfl rfl)) cB) ?_
          refine S.sil 149 rfl rfl (fun _ hF => .move (lk 0 rfl rfl)) ?_
          refine S.gsil 150 55 149 true rfl rfl rfl (lk 0 rfl rfl) (fun hB _ hF => .move (lk 58 rfl rfl)) ?_
          obtain ⟨r29, m29, h⟩ := h.bnd
          refine S.gsil 151 55 149 true rfl rfl rfl (lk 1 rfl rfl) (fun hB _ hF => .callQ ent17 cF (.c (ifT hB (lk 0 rfl rfl)) (V.sub.refl _) .nil) (C_hold_Rights (gd_get m29 hB))) ?_
          obtain ⟨v30, ev30, h⟩ := h.nam
          refine S.sil 152 rfl rfl (fun _ hF => .nv (.pickAnd (lk 2 rfl rfl) (fun h => ifT h (lk 0 rfl rfl)) cB) (congrArg V.bool ev30.symm)) ?_
          refine S.sil 153 rfl rfl (fun _ hF => .move (lk 0 rfl rfl)) ?_
          obtain ⟨r31, m31, h⟩ := h.bnd
          refine S.gsil 154 59 153 true rfl rfl rfl (lk 0 rfl rfl) (fun hB _ hF => .callQ ent11 cF .nil (C_usufructlaw06_awake (gd_get m31 hB))) ?_
          refine S.sil 155 rfl rfl (fun _ hF => .pickAnd (lk 1 rfl rfl) (fun h => ifT h (lk 0 rfl rfl)) cB) ?_
          refine S.sil 10 rfl rfl (fun _ hF => .assign (lk 0 rfl rfl)) ?_
          refine S.nil ?_
          refine thenQ_n ?_
          refine AWp.prune (.eq (lk 0 rfl rfl) rfl .nil) ?_
          refine AWp.ret ?_
          obtain rfl := h.ret
          exact endF1 rfl (Wk.selS [] .nil rfl (SelE.leaf (lk 0 rfl rfl) rfl (.refl _) (fun m => (TyOk.bool.lt _ _)) .nil) .nil) (.tmp (lk 0 rfl rfl) rfl) rfl rfl
        · skip
          refine AWp.skip ?_
          refine thenQ_n ?_
          refine AWp.seq ?_
          refine W.reg [0, 1, 2, 3, 4, 5, 6, 7, 8, 9, 10, 11] rfl ?_
          refine S.sil 86 rfl rfl (fun _ hF => .move (lk 6 rfl rfl)) ?_
          refine S.sil 87 rfl rfl (fun _ hF => .move (lk 10 rfl rfl)) ?_
          refine S.sil 88 rfl rfl (fun _ hF => .move (lk 7 rfl rfl)) ?_
          refine S.sil 89 rfl rfl (fun _ hF => .move (lk 4 rfl rfl)) ?_
          obtain ⟨r32, m32, h⟩ := h.bnd
          refine S.sil 90 rfl rfl (fun _ hF => .callQ ent23 cF (.c (lk 3 rfl rfl) (V.sub.refl _) (.c (lk 2 rfl rfl) (V.sub.refl _) (.c (lk 1 rfl rfl) (V.sub.refl _) (.c (lk 0 rfl rfl) (V.sub.refl _) .nil)))) (C_hold_End m32)) ?_
          refine S.sil 85 rfl rfl (fun _ hF => .move (lk 0 rfl rfl)) ?_
          refine S.sil 91 rfl rfl (fun _ hF => .extract (lk 0 rfl rfl) rfl) ?_
          refine S.sil 92 rfl rfl (fun _ hF => .extract (lk 1 rfl rfl) rfl) ?_
          refine S.sil 93 rfl rfl (fun _ hF => .extract (lk 2 rfl rfl) rfl) ?_
          refine S.sil 21 rfl rfl (fun _ hF => .assign (lk 2 rfl rfl)) ?_
          refine S.sil 22 rfl rfl (fun _ hF => .assign (lk 2 rfl rfl)) ?_
          refine S.sil 23 rfl rfl (fun _ hF => .assign (lk 2 rfl rfl)) ?_
          refine S.nil ?_
          refine thenQ_n ?_
          refine AWp.prune (.eq (lk 0 rfl rfl) rfl (.eq (lk 1 rfl rfl) rfl (.eq (lk 2 rfl rfl) rfl (.eq (lk 14 rfl rfl) rfl (.eq (lk 15 rfl rfl) rfl (.eq (lk 16 rfl rfl) rfl (.eq (lk 17 rfl rfl) rfl (.eq (lk 18 rfl rfl) rfl (.eq (lk 19 rfl rfl) rfl (.eq (lk 20 rfl rfl) rfl (.eq (lk 21 rfl rfl) rfl (.eq (lk 22 rfl rfl) rfl (.eq (lk 23 rfl rfl) rfl .nil))))))))))))) ?_
          refine AWp.seq ?_
          refine W.reg [0, 1, 2, 3, 4, 5, 6, 7, 8, 9, 10, 11, 12, 13, 14, 15, 16, 17, 18, 19, 20, 21, 22, 23, 24, 25, 26, 27, 28, 29, 30, 31, 32, 33, 34, 35, 36, 37, 38, 39, 40, 41, 42, 43, 44, 45, 46, 47, 48, 49, 50, 51, 52, 53, 54, 55, 56, 57, 58, 59, 60, 61, 62] rfl ?_
          refine S.sil 94 rfl rfl (fun _ hF => .move (lk 5 rfl rfl)) ?_
          refine S.sil 95 rfl rfl (fun _ hF => .not (lk 0 rfl rfl)) ?_
          refine S.sil 96 rfl rfl (fun _ hF => .move (lk 0 rfl rfl)) ?_
          refine S.gsil 97 2 96 true rfl rfl rfl (lk 0 rfl rfl) (fun hB _ hF => .move (lk 6 rfl rfl)) ?_
          refine S.sil 98 rfl rfl (fun _ hF => .pickAnd (lk 1 rfl rfl) (fun h => ifT h (lk 0 rfl rfl)) cB) ?_
          refine S.sil 99 rfl rfl (fun _ hF => .move (lk 0 rfl rfl)) ?_
          refine S.gsil 100 5 99 true rfl rfl rfl (lk 0 rfl rfl) (fun hB _ hF => .loadC sz29 ag29 (lk 10 rfl rfl) (ty_THold.fl r19.1) rfl) ?_
          refine S.gsil 101 5 99 true rfl rfl rfl (lk 1 rfl rfl) (fun hB _ hF => .move (lk 17 rfl rfl)) ?_
          refine S.gsil 102 5 99 true rfl rfl rfl (lk 2 rfl rfl) (fun hB _ hF => .move (lk 14 rfl rfl)) ?_
          refine S.gsil 103 5 99 true rfl rfl rfl (lk 3 rfl rfl) (fun hB _ hF => .move (lk 20 rfl rfl)) ?_
          refine S.gsil 104 5 99 true rfl rfl rfl (lk 4 rfl rfl) (fun hB _ hF => .move (lk 22 rfl rfl)) ?_
          refine S.gsil 105 5 99 true rfl rfl rfl (lk 5 rfl rfl) (fun hB _ hF => .nv (v2 := E_THold (⟨a2, r15.2.1, a3, a4, 1⟩ : THold)) (.buildStW lay29 zv29 rfl (.cons (ifT hB (lk 3 rfl rfl)) rfl rfl rfl rfl (.cons (ifT hB (lk 2 rfl rfl)) rfl rfl rfl rfl (.cons (ifT hB (lk 1 rfl rfl)) rfl rfl rfl rfl (.cons (ifT hB (lk 0 rfl rfl)) rfl rfl rfl rfl (.cons cI rfl rfl rfl rfl .nil)))))) rfl) ?_
          refine S.gsil 106 5 99 true rfl rfl rfl (lk 6 rfl rfl) (fun hB _ hF => .eqlT eqt29 eqk_THold shk_THold (ifT hB (lk 5 rfl rfl)) (ifT hB (lk 0 rfl rfl)) rfl rfl) ?_
          obtain ⟨v33, ev33, h⟩ := h.nam
          refine S.sil 107 rfl rfl (fun _ hF => .nv (.pickAnd (lk 7 rfl rfl) (fun h => ifT h (lk 0 rfl rfl)) cB) (congrArg V.bool ev33.symm)) ?_
          refine S.sil 108 rfl rfl (fun _ hF => .move (lk 0 rfl rfl)) ?_
          refine S.gsil 109 14 108 true rfl rfl rfl (lk 0 rfl rfl) (fun hB _ hF => .move (lk 22 rfl rfl)) ?_
          refine S.gsil 110 14 108 true rfl rfl rfl (lk 1 rfl rfl) (fun hB _ hF => .lenT sli22 (ifT hB (lk 0 rfl rfl)) (vsub rfl (.refl _))) ?_
          refine S.gsil 111 14 108 true rfl rfl rfl (lk 2 rfl rfl) (fun hB _ hF => .move (lk 26 rfl rfl)) ?_
          refine S.gsil 112 14 108 true rfl rfl rfl (lk 3 rfl rfl) (fun hB _ hF => .lenT sli22 (ifT hB (lk 0 rfl rfl)) (vsub rfl (.refl _))) ?_
          refine S.gsil 113 14 108 true rfl rfl rfl (lk 4 rfl rfl) (fun hB _ hF => .add (ifT hB (lk 0 rfl rfl)) cI) ?_
          refine S.gsil 114 14 108 true rfl rfl rfl (lk 5 rfl rfl) (fun hB _ hF => .eql (ifT hB (lk 3 rfl rfl)) (ifT hB (lk 0 rfl rfl))) ?_
          obtain ⟨v34, ev34, h⟩ := h.nam
          refine S.sil 115 rfl rfl (fun _ hF => .nv (.pickAnd (lk 6 rfl rfl) (fun h => ifT h (lk 0 rfl rfl)) cB) (congrArg V.bool ev34.symm)) ?_
          refine S.sil 116 rfl rfl (fun _ hF => .move (lk 0 rfl rfl)) ?_
          refine S.gsil 117 22 116 true rfl rfl rfl (lk 0 rfl rfl) (fun hB _ hF => .move (lk 30 rfl rfl)) ?_
          refine S.gsil 118 22 116 true rfl rfl rfl (lk 1 rfl rfl) (fun hB _ hF => .move (lk 34 rfl rfl)) ?_
          obtain ⟨r35, m35, h⟩ := h.bnd
          refine S.gsil 119 22 116 true rfl rfl rfl (lk 2 rfl rfl) (fun hB _ hF => .callQ ent19 cF (.c (ifT hB (lk 1 rfl rfl)) (V.sub.refl _) (.c (ifT hB (lk 0 rfl rfl)) (V.sub.refl _) .nil)) (C_hold_Sum (gd_get m35 hB))) ?_
          refine S.gsil 120 22 116 true rfl rfl rfl (lk 3 rfl rfl) (fun hB _ hF => .move (lk 35 rfl rfl)) ?_
          refine S.gsil 121 22 116 true rfl rfl rfl (lk 4 rfl rfl) (fun hB _ hF => .move (lk 37 rfl rfl)) ?_
          obtain ⟨r36, m36, h⟩ := h.bnd
          refine S.gsil 122 22 116 true rfl rfl rfl (lk 5 rfl rfl) (fun hB _ hF => .callQ ent19 cF (.c (ifT hB (lk 1 rfl rfl)) (V.sub.refl _) (.c (ifT hB (lk 0 rfl rfl)) (V.sub.refl _) .nil)) (C_hold_Sum (gd_get m36 hB))) ?_
          refine S.gsil 123 22 116 true rfl rfl rfl (lk 6 rfl rfl) (fun hB _ hF => .move (lk 40 rfl rfl)) ?_
          refine S.gsil 124 22 116 true rfl rfl rfl (lk 7 rfl rfl) (fun hB _ hF => .add (ifT hB (lk 1 rfl rfl)) (ifT hB (lk 0 rfl rfl))) ?_
          refine S.gsil 125 22 116 true rfl rfl rfl (lk 8 rfl rfl) (fun hB _ hF => .eql (ifT hB (lk 5 rfl rfl)) (ifT hB (lk 0 rfl rfl))) ?_
          refine S.sil 126 rfl rfl (fun _ hF => .pickAnd (lk 9 rfl rfl) (fun h => ifT h (lk 0 rfl rfl)) cB) ?_
          refine S.sil 127 rfl rfl (fun _ hF => .move (lk 0 rfl rfl)) ?_
          refine S.gsil 128 33 127 true rfl rfl rfl (lk 0 rfl rfl) (fun hB _ hF => .move (lk 34 rfl rfl)) ?_
          refine S.gsil 129 33 127 true rfl rfl rfl (lk 1 rfl rfl) (fun hB _ hF => .eql (ifT hB (lk 0 rfl rfl)) cI) ?_
          obtain ⟨v37, ev37, h⟩ := h.nam
          refine S.sil 130 rfl rfl (fun _ hF => .nv (.pickAnd (lk 2 rfl rfl) (fun h => ifT h (lk 0 rfl rfl)) cB) (congrArg V.bool ev37.symm)) ?_
          refine S.sil 131 rfl rfl (fun _ hF => .move (lk 0 rfl rfl)) ?_
          refine S.gsil 132 37 131 true rfl rfl rfl (lk 0 rfl rfl) (fun hB _ hF => .move (lk 39 rfl rfl)) ?_
          refine S.gsil 133 37 131 true rfl rfl rfl (lk 1 rfl rfl) (fun hB _ hF => .move (lk 50 rfl rfl)) ?_
          refine S.gsil 134 37 131 true rfl rfl rfl (lk 2 rfl rfl) (fun hB _ hF => .eql (ifT hB (lk 1 rfl rfl)) (ifT hB (lk 0 rfl rfl))) ?_
          refine S.sil 135 rfl rfl (fun _ hF => .pickAnd (lk 3 rfl rfl) (fun h => ifT h (lk 0 rfl rfl)) cB) ?_
          refine S.sil 136 rfl rfl (fun _ hF => .move (lk 0 rfl rfl)) ?_
          refine S.gsil 137 42 136 true rfl rfl rfl (lk 0 rfl rfl) (fun hB _ hF => .move (lk 45 rfl rfl)) ?_
          refine S.gsil 138 42 136 true rfl rfl rfl (lk 1 rfl rfl) (fun hB _ hF => .move (lk 54 rfl rfl)) ?_
          obtain ⟨r38, m38, h⟩ := h.bnd
          refine S.gsil 139 42 136 true rfl rfl rfl (lk 2 rfl rfl) (fun hB _ hF => .callQ ent19 cF (.c (ifT hB (lk 1 rfl rfl)) (V.sub.refl _) (.c (ifT hB (lk 0 rfl rfl)) (V.sub.refl _) .nil)) (C_hold_Sum (gd_get m38 hB))) ?_
          refine S.gsil 140 42 136 true rfl rfl rfl (lk 3 rfl rfl) (fun hB _ hF => .move (lk 55 rfl rfl)) ?_
          refine S.gsil 141 42 136 true rfl rfl rfl (lk 4 rfl rfl) (fun hB _ hF => .move (lk 57 rfl rfl)) ?_
          obtain ⟨r39, m39, h⟩ := h.bnd
          refine S.gsil 142 42 136 true rfl rfl rfl (lk 5 rfl rfl) (fun hB _ hF => .callQ ent19 cF (.c (ifT hB (lk 1 rfl rfl)) (V.sub.refl _) (.c (ifT hB (lk 0 rfl rfl)) (V.sub.refl _) .nil)) (C_hold_Sum (gd_get m39 hB))) ?_
          refine S.gsil 143 42 136 true rfl rfl rfl (lk 6 rfl rfl) (fun hB _ hF => .eql (ifT hB (lk 3 rfl rfl)) (ifT hB (lk 0 rfl rfl))) ?_
          refine S.sil 144 rfl rfl (fun _ hF => .pickAnd (lk 7 rfl rfl) (fun h => ifT h (lk 0 rfl rfl)) cB) ?_
          refine S.sil 145 rfl rfl (fun _ hF => .move (lk 0 rfl rfl)) ?_
          refine S.gsil 146 51 145 true rfl rfl rfl (lk 0 rfl rfl) (fun hB _ hF => .move (lk 59 rfl rfl)) ?_
          obtain ⟨r40, m40, h⟩ := h.bnd
          refine S.gsil 147 51 145 true rfl rfl rfl (lk 1 rfl rfl) (fun hB _ hF => .callQ ent17 cF (.c (ifT hB (lk 0 rfl rfl)) (V.sub.refl _) .nil) (C_hold_Rights (gd_get m40 hB))) ?_
          refine S.sil 148 rfl rfl (fun _ hF => .pickAnd (lk 2 rfl rfl) (fun h => ifT h (lk 0 rfl rfl)) cB) ?_
          refine S.sil 149 rfl rfl (fun _ hF => .move (lk 0 rfl rfl)) ?_
          refine S.gsil 150 55 149 true rfl rfl rfl (lk 0 rfl rfl) (fun hB _ hF => .move (lk 58 rfl rfl)) ?_
          obtain ⟨r41, m41, h⟩ := h.bnd
          refine S.gsil 151 55 149 true rfl rfl rfl (lk 1 rfl rfl) (fun hB _ hF => .callQ ent17 cF (.c (ifT hB (lk 0 rfl rfl)) (V.sub.refl _) .nil) (C_hold_Rights (gd_get m41 hB))) ?_
          obtain ⟨v42, ev42, h⟩ := h.nam
          refine S.sil 152 rfl rfl (fun _ hF => .nv (.pickAnd (lk 2 rfl rfl) (fun h => ifT h (lk 0 rfl rfl)) cB) (congrArg V.bool ev42.symm)) ?_
          refine S.sil 153 rfl rfl (fun _ hF => .move (lk 0 rfl rfl)) ?_
          obtain ⟨r43, m43, h⟩ := h.bnd
          refine S.gsil 154 59 153 true rfl rfl rfl (lk 0 rfl rfl) (fun hB _ hF => .callQ ent11 cF .nil (C_usufructlaw06_awake (gd_get m43 hB))) ?_
          refine S.sil 155 rfl rfl (fun _ hF => .pickAnd (lk 1 rfl rfl) (fun h => ifT h (lk 0 rfl rfl)) cB) ?_
          refine S.sil 10 rfl rfl (fun _ hF => .assign (lk 0 rfl rfl)) ?_
          refine S.nil ?_
          refine thenQ_n ?_
          refine AWp.prune (.eq (lk 0 rfl rfl) rfl .nil) ?_
          refine AWp.ret ?_
          obtain rfl := h.ret
          exact endF1 rfl (Wk.selS [] .nil rfl (SelE.leaf (lk 0 rfl rfl) rfl (.refl _) (fun m => (TyOk.bool.lt _ _)) .nil) .nil) (.tmp (lk 0 rfl rfl) rfl) rfl rfl
end Go.Av
