/- Functions that the statements of this seat reach, each with what it answers. -/
import Derived.Test.YtemcahobfhomiaaProg
import Derived.KernelRfl
import Derived.Test.YtemcahobfhomiaaAvG2
import Derived.Test.YtemcahobfhomiaaAvLLock2
namespace Go.Av
open Go.Proofs
set_option linter.unusedVariables false
set_option linter.unusedSimpArgs false
set_option maxHeartbeats 4000000
theorem sz29 : szOf Pg 29 = some 1 := by kernel_rfl
theorem ag29 : aggOf Pg 29 = some false := by kernel_rfl
theorem sli29 : sliOf Pg 29 = some (37, 4, true, 32) := by kernel_rfl
theorem und29 : Pg.underlying 29 = some (.slice 37) := by kernel_rfl
theorem zv29 : ZeroV Pg 29 (.nils) := ⟨((Pg.info? 29).bind (·.zero)).getD .nilFunc, (by kernel_rfl), (by kernel_rfl), (by kernel_rfl)⟩
theorem sz33 : szOf Pg 33 = some 64 := by kernel_rfl
theorem ag33 : aggOf Pg 33 = some true := by kernel_rfl
theorem arr33 : arrOf Pg 33 = some (16, 4, true) := by kernel_rfl
theorem zv33 : ZeroV Pg 33 (.arr 4 (List.replicate 16 (.st [.int .i64 0, .int .i64 0, .int .i64 0, .int .i64 0]))) := ⟨((Pg.info? 33).bind (·.zero)).getD .nilFunc, (by kernel_rfl), (by kernel_rfl), (by kernel_rfl)⟩
theorem sz37 : szOf Pg 37 = some 4 := by kernel_rfl
theorem ag37 : aggOf Pg 37 = some true := by kernel_rfl
theorem lay37 : layOf Pg 37 = some [(0, 1, false), (1, 1, false), (2, 1, false), (3, 1, false)] := by kernel_rfl
theorem zv37 : ZeroV Pg 37 (.st [.int .i64 0, .int .i64 0, .int .i64 0, .int .i64 0]) := ⟨((Pg.info? 37).bind (·.zero)).getD .nilFunc, (by kernel_rfl), (by kernel_rfl), (by kernel_rfl)⟩

theorem LockHolds_ok (h : Int) (l : List Do) : PureC Pg 6 [.int .i64 h, .sl 4 .no (l.map encDo)] (.bool true) := by
  refine PureC.of (CallSpec.of_body 128 0 Try.func6 rfl rfl rfl (by simp) ?_) (by simp []) (by simp [])
  refine AWp.seq ?_
  refine W.reg [0] rfl ?_
  refine S.sil 4 rfl rfl (fun _ hF => .assign cB) ?_
  refine S.nil ?_
  refine thenQ_n ?_
  refine AWp.seq ?_
  refine W.reg [0, 1, 2, 3, 4, 5, 6, 7] rfl ?_
  refine S.sil 15 rfl rfl (fun _ hF => .move (lk 1 rfl rfl)) ?_
  refine S.sil 16 rfl rfl (fun _ hF => .callQ ent14 cF (.c (lk 0 rfl rfl) (by first | exact V.sub.refl _ | exact V.sub.forget _ _ _ | exact V.sub.nils_no _ | exact V.sub.nils _) (.c cI (by first | exact V.sub.refl _ | exact V.sub.forget _ _ _ | exact V.sub.nils_no _ | exact V.sub.nils _) .nil)) (New_ok _ _)) ?_
  refine S.sil 14 rfl rfl (fun _ hF => .move (lk 0 rfl rfl)) ?_
  refine S.sil 17 rfl rfl (fun _ hF => .extract (lk 0 rfl rfl) rfl) ?_
  refine S.sil 18 rfl rfl (fun _ hF => .extract (lk 1 rfl rfl) rfl) ?_
  refine S.new 5 rfl rfl (.nf (.alloc zv23) (by (try simp only [List.set_cons_zero, List.set_cons_succ, List.cons_append, List.nil_append, List.append_nil, List.length_cons, List.length_nil, List.getD_cons_zero, List.getD_cons_succ, Nat.reduceAdd, Nat.reduceMul, Nat.zero_add, V.setAt_nil, V.setAt_st, V.setAt_arr, map_set']) <;> exact rfl) (by (try simp only [List.set_cons_zero, List.set_cons_succ, List.cons_append, List.nil_append, List.append_nil, List.length_cons, List.length_nil, List.getD_cons_zero, List.getD_cons_succ, Nat.reduceAdd, Nat.reduceMul, Nat.zero_add, V.setAt_nil, V.setAt_st, V.setAt_arr, map_set']) <;> exact rfl)) (by first | exact trivial | exact rfl | exact ⟨rfl, rfl⟩) ?_
  refine S.effN rfl rfl (.nf (.store sz23 (lk 0 rfl rfl) (lk 2 rfl rfl) rfl (by first | rfl | simp) rfl (by first | rfl | simp [V.offOf]) (by first | rfl | simp) (by first | rfl | simp)) (by (try simp only [List.set_cons_zero, List.set_cons_succ, List.cons_append, List.nil_append, List.append_nil, List.length_cons, List.length_nil, List.getD_cons_zero, List.getD_cons_succ, Nat.reduceAdd, Nat.reduceMul, Nat.zero_add, V.setAt_nil, V.setAt_st, V.setAt_arr, map_set']) <;> exact rfl) (by (try simp only [List.set_cons_zero, List.set_cons_succ, List.cons_append, List.nil_append, List.append_nil, List.length_cons, List.length_nil, List.getD_cons_zero, List.getD_cons_succ, Nat.reduceAdd, Nat.reduceMul, Nat.zero_add, V.setAt_nil, V.setAt_st, V.setAt_arr, map_set']) <;> exact rfl)) (by first | exact trivial | exact rfl | exact ⟨rfl, rfl⟩) ?_
  refine S.sil 6 rfl rfl (fun _ hF => .assign (lk 1 rfl rfl)) ?_
  refine S.nil ?_
  refine thenQ_n ?_
  refine AWp.seq ?_
  refine AWp.seq ?_
  refine W.reg [0, 1, 2, 3, 4, 5, 6] rfl ?_
  refine S.sil 19 rfl rfl (fun _ hF => .move (lk 0 rfl rfl)) ?_
  refine S.sil 20 rfl rfl (fun _ hF => .neq (lk 0 rfl rfl) cI) ?_
  refine S.sil 21 rfl rfl (fun _ hF => .move (lk 0 rfl rfl)) ?_
  refine S.gsil 22 2 21 false rfl rfl rfl (lk 0 rfl rfl) (fun hB _ hF => .move (lk 12 rfl rfl)) ?_
  first | refine S.gsil 23 2 21 false rfl rfl rfl (lk 1 rfl rfl) (fun hB _ hF => .len sli29 (ifT hB (lk 0 rfl rfl)) (by first | exact V.sub.refl _ | exact V.sub.forget _ _ _ | exact V.sub.nils_no _ | exact V.sub.nils _)) ?_ | refine S.gsil 23 2 21 false rfl rfl rfl (lk 1 rfl rfl) (fun hB _ hF => .lenO sli29 (ifT hB (lk 0 rfl rfl))) ?_
  refine S.gsil 24 2 21 false rfl rfl rfl (lk 2 rfl rfl) (fun hB _ hF => .gtr (ifT hB (lk 0 rfl rfl)) cI) ?_
  refine S.sil 25 rfl rfl (fun _ hF => .pickOr (lk 3 rfl rfl) cB (fun h => ifT h (lk 0 rfl rfl))) ?_
  refine S.nil ?_
  refine thenQ_n ?_
  refine AWp.prune (.eq (lk 0 rfl rfl) rfl (.eq (lk 8 rfl rfl) rfl (.eq (lk 14 rfl rfl) rfl (.eq (lk 16 rfl rfl) rfl .nil)))) ?_
  refine AWp.cond (lk 0 rfl rfl) (fun c0 => ?_) (fun c0 => ?_)
  · try simp only [decide_eq_true_eq, decide_eq_false_iff_not, Bool.not_eq_true', Bool.not_eq_false', Bool.and_eq_true, Bool.or_eq_true, Bool.and_eq_false_iff, Bool.or_eq_false_iff, Bool.not_eq_true, Bool.not_eq_false, ite_eq_left_iff] at c0
    refine AWp.seq ?_
    refine W.reg [0, 1] rfl ?_
    refine S.sil 26 rfl rfl (fun _ hF => .callQ ent10 cF .nil (awake_ok)) ?_
    refine S.sil 4 rfl rfl (fun _ hF => .assign (lk 0 rfl rfl)) ?_
    refine S.nil ?_
    refine thenQ_n ?_
    refine AWp.ret ?_
    refine thenQ_r ?_
    refine end1 rfl (lk 0 rfl rfl) rfl (by first | rfl | simp []) ?_
    rfl
  · try simp only [decide_eq_true_eq, decide_eq_false_iff_not, Bool.not_eq_true', Bool.not_eq_false', Bool.and_eq_true, Bool.or_eq_true, Bool.and_eq_false_iff, Bool.or_eq_false_iff, Bool.not_eq_true, Bool.not_eq_false, ite_eq_left_iff] at c0
    obtain ⟨hR, hN, hnew⟩ := new_ok c0.1
    have hl : l.length ≤ 80 := by have := c0.2; simp at this; omega
    have hR : isR (newLock h 0).1.Holder = true := by rw [hnew]; exact hR
    refine AWp.skip ?_
    refine thenQ_n ?_
    refine AWp.seq ?_
    refine W.reg [0] rfl ?_
    refine S.new 7 rfl rfl (.nf (.alloc zv33) (by (try simp only [List.set_cons_zero, List.set_cons_succ, List.cons_append, List.nil_append, List.append_nil, List.length_cons, List.length_nil, List.getD_cons_zero, List.getD_cons_succ, Nat.reduceAdd, Nat.reduceMul, Nat.zero_add, V.setAt_nil, V.setAt_st, V.setAt_arr, map_set']) <;> exact rfl) (by (try simp only [List.set_cons_zero, List.set_cons_succ, List.cons_append, List.nil_append, List.append_nil, List.length_cons, List.length_nil, List.getD_cons_zero, List.getD_cons_succ, Nat.reduceAdd, Nat.reduceMul, Nat.zero_add, V.setAt_nil, V.setAt_st, V.setAt_arr, map_set']) <;> exact rfl)) (by first | exact trivial | exact rfl | exact ⟨rfl, rfl⟩) ?_
    refine S.nil ?_
    refine thenQ_n ?_
    refine AWp.seq ?_
    refine AWp.seq ?_
    refine W.reg [0] rfl ?_
    refine S.sil 27 rfl rfl (fun _ hF => .move cI) ?_
    refine S.nil ?_
    refine thenQ_n ?_
    refine AWp.block ?_
    refine AWp.loopS (ι := {i : Nat // i ≤ 16}) (fun ⟨i, _⟩ => ⟨[(1, .sl 4 .no (l.map encDo)), (5, .ptr 0 [] 0), (7, .ptr 1 [] 0), (27, .int .i64 (i : Int))], [.cells (encLock (newLock h 0).1), .cells (.arr 4 (List.map encLock (fillL 16 i (newLock h 0).1 lock0)))]⟩) (fun ⟨i, _⟩ => 16 - i) ⟨0, by omega⟩ ?_ ?_
    · exact Wk.to 2 (by decide) rfl (.eq (lk 5 rfl rfl) rfl (.eq (lk 3 rfl rfl) rfl (.eq (lk 1 rfl rfl) rfl (.eq (lk 0 rfl rfl) rfl .nil)))) (by first | rfl | simp [envLt, V.lt]) (by first | rfl | simp [objsLt, AObj.lt, V.lt, -List.map_set])
    · rintro ⟨i, hi1⟩
      refine AWp.seq ?_
      refine W.reg [0] rfl ?_
      refine S.sil 28 rfl rfl (fun _ hF => .lss (lk 3 rfl rfl) cI) ?_
      refine S.nil ?_
      refine thenQ_n ?_
      refine AWp.seq ?_
      refine AWp.cond (lk 0 rfl rfl) (fun c1 => ?_) (fun c1 => ?_)
      · try simp only [decide_eq_true_eq, decide_eq_false_iff_not, Bool.not_eq_true', Bool.not_eq_false', Bool.and_eq_true, Bool.or_eq_true, Bool.and_eq_false_iff, Bool.or_eq_false_iff, Bool.not_eq_true, Bool.not_eq_false, ite_eq_left_iff] at c1
        refine AWp.skip ?_
        refine thenQ_n ?_
        refine AWp.seq ?_
        refine AWp.block ?_
        refine AWp.seq ?_
        refine W.reg [0, 1] rfl ?_
        refine S.sil 29 rfl rfl (fun _ hF => .move (lk 4 rfl rfl)) ?_
        refine S.sil 8 rfl rfl (fun _ hF => .assign (lk 0 rfl rfl)) ?_
        refine S.nil ?_
        refine thenQ_n ?_
        refine W.reg [0, 1, 2, 3] rfl ?_
        refine S.sil 30 rfl rfl (fun _ hF => .move (lk 0 rfl rfl)) ?_
        first | refine S.qui 31 rfl rfl (fun _ => .load sz23 ag23 (lk 5 rfl rfl) (by first | rfl | simp) rfl (by first | rfl | simp [V.offOf]) (by first | rfl | (simp; done) | (simp; omega)) (by first | rfl | simp)) ?_ | refine S.sil 31 rfl rfl (fun _ hF => .loadC sz23 ag23 (lk 5 rfl rfl) (by first | rfl | simp) (by first | rfl | simp)) ?_
        first | refine S.sil 32 rfl rfl (fun _ hF => .nv (.indexAddr arr33 (lk 7 rfl rfl) (lk 1 rfl rfl) (by omega) (by omega)) (by (try simp only [List.set_cons_zero, List.set_cons_succ, List.cons_append, List.nil_append, List.append_nil, List.length_cons, List.length_nil, List.getD_cons_zero, List.getD_cons_succ, Nat.reduceAdd, Nat.reduceMul, Nat.zero_add, V.setAt_nil, V.setAt_st, V.setAt_arr, map_set']) <;> exact rfl)) ?_ | refine S.sil 32 rfl rfl (fun _ hF => .indexAddrC arr33 (lk 7 rfl rfl) (lk 1 rfl rfl) (by omega) (by omega) rfl) ?_
        refine S.effN rfl rfl (.nf (.store sz23 (lk 0 rfl rfl) (lk 1 rfl rfl) rfl (by first | rfl | simp) (at_map encLock lock0 (by rw [fillL_len (by omega)]; omega)) (by first | rfl | simp [V.offOf]) (by first | rfl | simp) (by first | rfl | simp)) (by (try simp only [List.set_cons_zero, List.set_cons_succ, List.cons_append, List.nil_append, List.append_nil, List.length_cons, List.length_nil, List.getD_cons_zero, List.getD_cons_succ, Nat.reduceAdd, Nat.reduceMul, Nat.zero_add, V.setAt_nil, V.setAt_st, V.setAt_arr, map_set']) <;> exact rfl) (by (try simp only [List.set_cons_zero, List.set_cons_succ, List.cons_append, List.nil_append, List.append_nil, List.length_cons, List.length_nil, List.getD_cons_zero, List.getD_cons_succ, Nat.reduceAdd, Nat.reduceMul, Nat.zero_add, V.setAt_nil, V.setAt_st, V.setAt_arr, map_set']) <;> exact rfl)) (by first | exact trivial | exact rfl | exact ⟨rfl, rfl⟩) ?_
        refine S.nil ?_
        refine blockQ_n ?_
        refine thenQ_n ?_
        refine W.reg [0, 1] rfl ?_
        refine S.sil 33 rfl rfl (fun _ hF => .add (lk 9 rfl rfl) cI) ?_
        refine S.sil 27 rfl rfl (fun _ hF => .move (lk 0 rfl rfl)) ?_
        refine S.nil ?_
        refine thenQ_n ?_
        refine ⟨⟨i + 1, by omega⟩, by simp; omega, ?_⟩
        exact Wk.to 2 (by decide) (congrArg (fun q => [AObj.cells (encLock (newLock h 0).1), AObj.cells (.arr 4 (List.map encLock q))]) (fillL_set (n := 16) (i := i) (by omega))) (.eq (lk 8 rfl rfl) rfl (.eq (lk 9 rfl rfl) rfl (.eq (lk 10 rfl rfl) rfl (.eq (lk 0 rfl rfl) (by rw [wrap_id (by omega) (by omega)]; rfl) .nil)))) (by first | rfl | simp [envLt, V.lt]) (by first | rfl | simp [objsLt, AObj.lt, V.lt, -List.map_set])
      · try simp only [decide_eq_true_eq, decide_eq_false_iff_not, Bool.not_eq_true', Bool.not_eq_false', Bool.and_eq_true, Bool.or_eq_true, Bool.and_eq_false_iff, Bool.or_eq_false_iff, Bool.not_eq_true, Bool.not_eq_false, ite_eq_left_iff] at c1
        have hfull : fillL 16 i (newLock h 0).1 lock0 = List.replicate 16 (newLock h 0).1 := (show i = 16 from by omega) ▸ fillL_full
        refine AWp.exit ?_
        refine thenQ_x ?_
        refine thenQ_x ?_
        refine blockQ_x ?_
        refine thenQ_n ?_
        refine AWp.seq ?_
        refine W.reg [0, 1, 2] rfl ?_
        first | refine S.qui 34 rfl rfl (fun _ => .load sz23 ag23 (lk 2 rfl rfl) (by first | rfl | simp) rfl (by first | rfl | simp [V.offOf]) (by first | rfl | (simp; done) | (simp; omega)) (by first | rfl | simp)) ?_ | refine S.sil 34 rfl rfl (fun _ hF => .loadC sz23 ag23 (lk 2 rfl rfl) (by first | rfl | simp) (by first | rfl | simp)) ?_
        refine S.new 9 rfl rfl (.nf (.alloc zv23) (by (try simp only [List.set_cons_zero, List.set_cons_succ, List.cons_append, List.nil_append, List.append_nil, List.length_cons, List.length_nil, List.getD_cons_zero, List.getD_cons_succ, Nat.reduceAdd, Nat.reduceMul, Nat.zero_add, V.setAt_nil, V.setAt_st, V.setAt_arr, map_set']) <;> exact rfl) (by (try simp only [List.set_cons_zero, List.set_cons_succ, List.cons_append, List.nil_append, List.append_nil, List.length_cons, List.length_nil, List.getD_cons_zero, List.getD_cons_succ, Nat.reduceAdd, Nat.reduceMul, Nat.zero_add, V.setAt_nil, V.setAt_st, V.setAt_arr, map_set']) <;> exact rfl)) (by first | exact trivial | exact rfl | exact ⟨rfl, rfl⟩) ?_
        refine S.effN rfl rfl (.nf (.store sz23 (lk 0 rfl rfl) (lk 1 rfl rfl) rfl (by first | rfl | simp) rfl (by first | rfl | simp [V.offOf]) (by first | rfl | simp) (by first | rfl | simp)) (by (try simp only [List.set_cons_zero, List.set_cons_succ, List.cons_append, List.nil_append, List.append_nil, List.length_cons, List.length_nil, List.getD_cons_zero, List.getD_cons_succ, Nat.reduceAdd, Nat.reduceMul, Nat.zero_add, V.setAt_nil, V.setAt_st, V.setAt_arr, map_set']) <;> exact rfl) (by (try simp only [List.set_cons_zero, List.set_cons_succ, List.cons_append, List.nil_append, List.append_nil, List.length_cons, List.length_nil, List.getD_cons_zero, List.getD_cons_succ, Nat.reduceAdd, Nat.reduceMul, Nat.zero_add, V.setAt_nil, V.setAt_st, V.setAt_arr, map_set']) <;> exact rfl)) (by first | exact trivial | exact rfl | exact ⟨rfl, rfl⟩) ?_
        refine S.nil ?_
        refine thenQ_n ?_
        refine AWp.seq ?_
        refine AWp.seq ?_
        refine W.reg [0, 1, 2] rfl ?_
        refine S.sil 35 rfl rfl (fun _ hF => .move (lk 3 rfl rfl)) ?_
        first | refine S.sil 36 rfl rfl (fun _ hF => .len sli29 (lk 0 rfl rfl) (by first | exact V.sub.refl _ | exact V.sub.forget _ _ _ | exact V.sub.nils_no _ | exact V.sub.nils _)) ?_ | refine S.sil 36 rfl rfl (fun _ hF => .lenO sli29 (lk 0 rfl rfl)) ?_
        refine S.sil 37 rfl rfl (fun _ hF => .move cI) ?_
        refine S.nil ?_
        refine thenQ_n ?_
        refine AWp.block ?_
        refine AWp.loopS (ι := {p : Nat × List Lock × Lock // p.1 ≤ l.length ∧ InvH p.2.1 p.2.2}) (fun ⟨⟨i, s, all⟩, _⟩ => ⟨[(7, .ptr 1 [] 0), (9, .ptr 2 [] 0), (35, .sl 4 .no (l.map encDo)), (36, .int .i64 ((l.length : Nat) : Int)), (37, .int .i64 (i : Int))], [.cells (encLock (newLock h 0).1), .cells (.arr 4 (List.map encLock s)), .cells (encLock all)]⟩) (fun ⟨⟨i, s, all⟩, _⟩ => l.length - i) ⟨⟨0, List.replicate 16 (newLock h 0).1, (newLock h 0).1⟩, by simp, InvH.start hR⟩ ?_ ?_
        · exact Wk.to 3 (by decide) (congrArg (fun q => [AObj.cells (encLock (newLock h 0).1), .cells (.arr 4 (List.map encLock q)), .cells (encLock (newLock h 0).1)]) (hfull)) (.eq (lk 8 rfl rfl) rfl (.eq (lk 3 rfl rfl) rfl (.eq (lk 2 rfl rfl) rfl (.eq (lk 1 rfl rfl) (by simp) (.eq (lk 0 rfl rfl) rfl .nil))))) (by first | rfl | simp [envLt, V.lt]) (by first | rfl | simp [objsLt, AObj.lt, V.lt, -List.map_set])
        · rintro ⟨⟨i, s, all⟩, hi1, inv⟩
          have hi1 : i ≤ l.length := hi1
          have inv : InvH s all := inv
          refine AWp.seq ?_
          refine W.reg [0] rfl ?_
          refine S.sil 38 rfl rfl (fun _ hF => .lss (lk 4 rfl rfl) (lk 3 rfl rfl)) ?_
          refine S.nil ?_
          refine thenQ_n ?_
          refine AWp.seq ?_
          refine AWp.cond (lk 0 rfl rfl) (fun c2 => ?_) (fun c2 => ?_)
          · try simp only [decide_eq_true_eq, decide_eq_false_iff_not, Bool.not_eq_true', Bool.not_eq_false', Bool.and_eq_true, Bool.or_eq_true, Bool.and_eq_false_iff, Bool.or_eq_false_iff, Bool.not_eq_true, Bool.not_eq_false, ite_eq_left_iff] at c2
            have hu : (l.map encDo)[((i : Nat) : Int).toNat]? = some (encDo (l.getD i do0)) := map_get encDo do0 (by omega)
            generalize l.getD i do0 = d at hu ⊢
            refine AWp.skip ?_
            refine thenQ_n ?_
            refine AWp.seq ?_
            refine AWp.block ?_
            refine AWp.seq ?_
            refine W.reg [0, 1, 2, 3] rfl ?_
            first | refine S.sil 39 rfl rfl (fun _ hF => .indexAddrS sli29 (lk 3 rfl rfl) (lk 5 rfl rfl) (by omega) (by simp; omega) hu) ?_ | refine S.sil 39 rfl rfl (fun _ hF => .nv (.indexAddrO sli29 (lk 3 rfl rfl) (lk 5 rfl rfl) (by omega) (by simp; omega)) (by (try simp only [List.set_cons_zero, List.set_cons_succ, List.cons_append, List.nil_append, List.append_nil, List.length_cons, List.length_nil, List.getD_cons_zero, List.getD_cons_succ, Nat.reduceAdd, Nat.reduceMul, Nat.zero_add, V.setAt_nil, V.setAt_st, V.setAt_arr, map_set']) <;> exact rfl)) ?_
            first | refine S.qui 40 rfl rfl (fun _ => .load sz37 ag37 (lk 0 rfl rfl) (by first | rfl | simp) rfl (by first | rfl | simp [V.offOf]) (by first | rfl | (simp; done) | (simp; omega)) (by first | rfl | simp)) ?_ | refine S.sil 40 rfl rfl (fun _ hF => .loadC sz37 ag37 (lk 0 rfl rfl) (by first | rfl | simp) (by first | rfl | simp)) ?_
            refine S.new 11 rfl rfl (.nf (.alloc zv37) (by (try simp only [List.set_cons_zero, List.set_cons_succ, List.cons_append, List.nil_append, List.append_nil, List.length_cons, List.length_nil, List.getD_cons_zero, List.getD_cons_succ, Nat.reduceAdd, Nat.reduceMul, Nat.zero_add, V.setAt_nil, V.setAt_st, V.setAt_arr, map_set']) <;> exact rfl) (by (try simp only [List.set_cons_zero, List.set_cons_succ, List.cons_append, List.nil_append, List.append_nil, List.length_cons, List.length_nil, List.getD_cons_zero, List.getD_cons_succ, Nat.reduceAdd, Nat.reduceMul, Nat.zero_add, V.setAt_nil, V.setAt_st, V.setAt_arr, map_set']) <;> exact rfl)) (by first | exact trivial | exact rfl | exact ⟨rfl, rfl⟩) ?_
            refine S.effN rfl rfl (.nf (.store sz37 (lk 0 rfl rfl) (lk 1 rfl rfl) rfl (by first | rfl | simp) rfl (by first | rfl | simp [V.offOf]) (by first | rfl | simp) (by first | rfl | simp)) (by (try simp only [List.set_cons_zero, List.set_cons_succ, List.cons_append, List.nil_append, List.append_nil, List.length_cons, List.length_nil, List.getD_cons_zero, List.getD_cons_succ, Nat.reduceAdd, Nat.reduceMul, Nat.zero_add, V.setAt_nil, V.setAt_st, V.setAt_arr, map_set']) <;> exact rfl) (by (try simp only [List.set_cons_zero, List.set_cons_succ, List.cons_append, List.nil_append, List.append_nil, List.length_cons, List.length_nil, List.getD_cons_zero, List.getD_cons_succ, Nat.reduceAdd, Nat.reduceMul, Nat.zero_add, V.setAt_nil, V.setAt_st, V.setAt_arr, map_set']) <;> exact rfl)) (by first | exact trivial | exact rfl | exact ⟨rfl, rfl⟩) ?_
            refine S.nil ?_
            refine thenQ_n ?_
            refine AWp.seq ?_
            refine AWp.seq ?_
            refine W.reg [0, 1, 2, 3, 4, 5, 6, 7, 8, 9, 10, 11, 12, 13, 14, 15, 16, 17] rfl ?_
            first | refine S.sil 41 rfl rfl (fun _ hF => .nv (.fieldAddr lay37 rfl rfl (lk 0 rfl rfl)) (by (try simp only [List.set_cons_zero, List.set_cons_succ, List.cons_append, List.nil_append, List.append_nil, List.length_cons, List.length_nil, List.getD_cons_zero, List.getD_cons_succ, Nat.reduceAdd, Nat.reduceMul, Nat.zero_add, V.setAt_nil, V.setAt_st, V.setAt_arr, map_set']) <;> exact rfl)) ?_ | refine S.sil 41 rfl rfl (fun _ hF => .fieldAddrC lay37 rfl rfl (lk 0 rfl rfl) rfl (by first | rfl | simp)) ?_
            first | refine S.qui 42 rfl rfl (fun _ => .load sz3 ag3 (lk 0 rfl rfl) (by first | rfl | simp) rfl (by first | rfl | simp [V.offOf]) (by first | rfl | (simp; done) | (simp; omega)) (by first | rfl | simp)) ?_ | refine S.sil 42 rfl rfl (fun _ hF => .loadC sz3 ag3 (lk 0 rfl rfl) (by first | rfl | simp) (by first | rfl | simp)) ?_
            refine S.sil 43 rfl rfl (fun _ hF => .lss (lk 0 rfl rfl) cI) ?_
            refine S.sil 44 rfl rfl (fun _ hF => .move (lk 0 rfl rfl)) ?_
            first | refine S.gsil 45 3 44 false rfl rfl rfl (lk 0 rfl rfl) (fun hB _ hF => .nv (.fieldAddr lay37 rfl rfl (lk 4 rfl rfl)) (by (try simp only [List.set_cons_zero, List.set_cons_succ, List.cons_append, List.nil_append, List.append_nil, List.length_cons, List.length_nil, List.getD_cons_zero, List.getD_cons_succ, Nat.reduceAdd, Nat.reduceMul, Nat.zero_add, V.setAt_nil, V.setAt_st, V.setAt_arr, map_set']) <;> exact rfl)) ?_ | refine S.gsil 45 3 44 false rfl rfl rfl (lk 0 rfl rfl) (fun hB _ hF => .fieldAddrC lay37 rfl rfl (lk 4 rfl rfl) rfl (by first | rfl | simp)) ?_
            first | refine S.gqui 46 3 44 false rfl rfl rfl (lk 1 rfl rfl) (fun hB _ => .load sz3 ag3 (ifT hB (lk 0 rfl rfl)) (by first | rfl | simp) rfl (by first | rfl | simp [V.offOf]) (by first | rfl | (simp; done) | (simp; omega)) (by first | rfl | simp)) ?_ | refine S.gsil 46 3 44 false rfl rfl rfl (lk 1 rfl rfl) (fun hB _ hF => .loadC sz3 ag3 (ifT hB (lk 0 rfl rfl)) (by first | rfl | simp) (by first | rfl | simp)) ?_
            refine S.gsil 47 3 44 false rfl rfl rfl (lk 2 rfl rfl) (fun hB _ hF => .gtr (ifT hB (lk 0 rfl rfl)) cI) ?_
            refine S.sil 48 rfl rfl (fun _ hF => .pickOr (lk 3 rfl rfl) cB (fun h => ifT h (lk 0 rfl rfl))) ?_
            refine S.sil 49 rfl rfl (fun _ hF => .move (lk 0 rfl rfl)) ?_
            first | refine S.gsil 50 8 49 false rfl rfl rfl (lk 0 rfl rfl) (fun hB _ hF => .nv (.fieldAddr lay37 rfl rfl (lk 9 rfl rfl)) (by (try simp only [List.set_cons_zero, List.set_cons_succ, List.cons_append, List.nil_append, List.append_nil, List.length_cons, List.length_nil, List.getD_cons_zero, List.getD_cons_succ, Nat.reduceAdd, Nat.reduceMul, Nat.zero_add, V.setAt_nil, V.setAt_st, V.setAt_arr, map_set']) <;> exact rfl)) ?_ | refine S.gsil 50 8 49 false rfl rfl rfl (lk 0 rfl rfl) (fun hB _ hF => .fieldAddrC lay37 rfl rfl (lk 9 rfl rfl) rfl (by first | rfl | simp)) ?_
            first | refine S.gqui 51 8 49 false rfl rfl rfl (lk 1 rfl rfl) (fun hB _ => .load sz3 ag3 (ifT hB (lk 0 rfl rfl)) (by first | rfl | simp) rfl (by first | rfl | simp [V.offOf]) (by first | rfl | (simp; done) | (simp; omega)) (by first | rfl | simp)) ?_ | refine S.gsil 51 8 49 false rfl rfl rfl (lk 1 rfl rfl) (fun hB _ hF => .loadC sz3 ag3 (ifT hB (lk 0 rfl rfl)) (by first | rfl | simp) (by first | rfl | simp)) ?_
            refine S.gsil 52 8 49 false rfl rfl rfl (lk 2 rfl rfl) (fun hB _ hF => .lss (ifT hB (lk 0 rfl rfl)) cI) ?_
            refine S.sil 53 rfl rfl (fun _ hF => .pickOr (lk 3 rfl rfl) cB (fun h => ifT h (lk 0 rfl rfl))) ?_
            refine S.sil 54 rfl rfl (fun _ hF => .move (lk 0 rfl rfl)) ?_
            first | refine S.gsil 55 13 54 false rfl rfl rfl (lk 0 rfl rfl) (fun hB _ hF => .nv (.fieldAddr lay37 rfl rfl (lk 14 rfl rfl)) (by (try simp only [List.set_cons_zero, List.set_cons_succ, List.cons_append, List.nil_append, List.append_nil, List.length_cons, List.length_nil, List.getD_cons_zero, List.getD_cons_succ, Nat.reduceAdd, Nat.reduceMul, Nat.zero_add, V.setAt_nil, V.setAt_st, V.setAt_arr, map_set']) <;> exact rfl)) ?_ | refine S.gsil 55 13 54 false rfl rfl rfl (lk 0 rfl rfl) (fun hB _ hF => .fieldAddrC lay37 rfl rfl (lk 14 rfl rfl) rfl (by first | rfl | simp)) ?_
            first | refine S.gqui 56 13 54 false rfl rfl rfl (lk 1 rfl rfl) (fun hB _ => .load sz3 ag3 (ifT hB (lk 0 rfl rfl)) (by first | rfl | simp) rfl (by first | rfl | simp [V.offOf]) (by first | rfl | (simp; done) | (simp; omega)) (by first | rfl | simp)) ?_ | refine S.gsil 56 13 54 false rfl rfl rfl (lk 1 rfl rfl) (fun hB _ hF => .loadC sz3 ag3 (ifT hB (lk 0 rfl rfl)) (by first | rfl | simp) (by first | rfl | simp)) ?_
            refine S.gsil 57 13 54 false rfl rfl rfl (lk 2 rfl rfl) (fun hB _ hF => .gtr (ifT hB (lk 0 rfl rfl)) cI) ?_
            refine S.sil 58 rfl rfl (fun _ hF => .pickOr (lk 3 rfl rfl) cB (fun h => ifT h (lk 0 rfl rfl))) ?_
            refine S.nil ?_
            refine thenQ_n ?_
            refine AWp.prune (.eq (lk 0 rfl rfl) rfl (.eq (lk 18 rfl rfl) rfl (.eq (lk 22 rfl rfl) rfl (.eq (lk 23 rfl rfl) rfl (.eq (lk 24 rfl rfl) rfl (.eq (lk 25 rfl rfl) rfl (.eq (lk 26 rfl rfl) rfl .nil))))))) ?_
            refine AWp.cond (lk 0 rfl rfl) (fun c3 => ?_) (fun c3 => ?_)
            · try simp only [decide_eq_true_eq, decide_eq_false_iff_not, Bool.not_eq_true', Bool.not_eq_false', Bool.and_eq_true, Bool.or_eq_true, Bool.and_eq_false_iff, Bool.or_eq_false_iff, Bool.not_eq_true, Bool.not_eq_false, ite_eq_left_iff] at c3
              refine AWp.exit ?_
              refine thenQ_x ?_
              refine blockQ_x ?_
              refine thenQ_n ?_
              refine W.reg [0, 1] rfl ?_
              refine S.sil 126 rfl rfl (fun _ hF => .add (lk 6 rfl rfl) cI) ?_
              refine S.sil 37 rfl rfl (fun _ hF => .move (lk 0 rfl rfl)) ?_
              refine S.nil ?_
              refine thenQ_n ?_
              refine ⟨⟨⟨i + 1, s, all⟩, by simp; omega, inv⟩, by simp; omega, ?_⟩
              exact Wk.to 3 (by decide) rfl (.eq (lk 4 rfl rfl) rfl (.eq (lk 5 rfl rfl) rfl (.eq (lk 6 rfl rfl) rfl (.eq (lk 7 rfl rfl) rfl (.eq (lk 0 rfl rfl) (by rw [wrap_id (by omega) (by omega)]; rfl) .nil))))) (by first | rfl | simp [envLt, V.lt]) (by first | rfl | simp [objsLt, AObj.lt, V.lt, -List.map_set])
            · try simp only [decide_eq_true_eq, decide_eq_false_iff_not, Bool.not_eq_true', Bool.not_eq_false', Bool.and_eq_true, Bool.or_eq_true, Bool.and_eq_false_iff, Bool.or_eq_false_iff, Bool.not_eq_true, Bool.not_eq_false, ite_eq_left_iff] at c3
              have hI : isR d.I = true := isR_iff.2 (by omega)
              have hIn := toNat_lt16 hI
              have hlen := inv.len
              refine AWp.skip ?_
              refine thenQ_n ?_
              refine AWp.seq ?_
              refine W.reg [0, 1, 2, 3, 4, 5, 6] rfl ?_
              first | refine S.sil 59 rfl rfl (fun _ hF => .nv (.fieldAddr lay37 rfl rfl (lk 1 rfl rfl)) (by (try simp only [List.set_cons_zero, List.set_cons_succ, List.cons_append, List.nil_append, List.append_nil, List.length_cons, List.length_nil, List.getD_cons_zero, List.getD_cons_succ, Nat.reduceAdd, Nat.reduceMul, Nat.zero_add, V.setAt_nil, V.setAt_st, V.setAt_arr, map_set']) <;> exact rfl)) ?_ | refine S.sil 59 rfl rfl (fun _ hF => .fieldAddrC lay37 rfl rfl (lk 1 rfl rfl) rfl (by first | rfl | simp)) ?_
              first | refine S.qui 60 rfl rfl (fun _ => .load sz3 ag3 (lk 0 rfl rfl) (by first | rfl | simp) rfl (by first | rfl | simp [V.offOf]) (by first | rfl | (simp; done) | (simp; omega)) (by first | rfl | simp)) ?_ | refine S.sil 60 rfl rfl (fun _ hF => .loadC sz3 ag3 (lk 0 rfl rfl) (by first | rfl | simp) (by first | rfl | simp)) ?_
              first | refine S.sil 61 rfl rfl (fun _ hF => .nv (.indexAddr arr33 (lk 4 rfl rfl) (lk 0 rfl rfl) (isR_iff.1 hI).1 (isR_iff.1 hI).2) (by (try simp only [List.set_cons_zero, List.set_cons_succ, List.cons_append, List.nil_append, List.append_nil, List.length_cons, List.length_nil, List.getD_cons_zero, List.getD_cons_succ, Nat.reduceAdd, Nat.reduceMul, Nat.zero_add, V.setAt_nil, V.setAt_st, V.setAt_arr, map_set']) <;> exact rfl)) ?_ | refine S.sil 61 rfl rfl (fun _ hF => .indexAddrC arr33 (lk 4 rfl rfl) (lk 0 rfl rfl) (isR_iff.1 hI).1 (isR_iff.1 hI).2 rfl) ?_
              first | refine S.qui 62 rfl rfl (fun _ => .load sz23 ag23 (lk 0 rfl rfl) (by first | rfl | simp) (at_map encLock lock0 (by omega)) (by first | rfl | simp [V.offOf]) (by first | rfl | (simp; done) | (simp; omega)) (by first | rfl | simp)) ?_ | refine S.sil 62 rfl rfl (fun _ hF => .loadC sz23 ag23 (lk 0 rfl rfl) (by first | rfl | simp) (by first | rfl | simp)) ?_
              refine S.new 12 rfl rfl (.nf (.alloc zv23) (by (try simp only [List.set_cons_zero, List.set_cons_succ, List.cons_append, List.nil_append, List.append_nil, List.length_cons, List.length_nil, List.getD_cons_zero, List.getD_cons_succ, Nat.reduceAdd, Nat.reduceMul, Nat.zero_add, V.setAt_nil, V.setAt_st, V.setAt_arr, map_set']) <;> exact rfl) (by (try simp only [List.set_cons_zero, List.set_cons_succ, List.cons_append, List.nil_append, List.append_nil, List.length_cons, List.length_nil, List.getD_cons_zero, List.getD_cons_succ, Nat.reduceAdd, Nat.reduceMul, Nat.zero_add, V.setAt_nil, V.setAt_st, V.setAt_arr, map_set']) <;> exact rfl)) (by first | exact trivial | exact rfl | exact ⟨rfl, rfl⟩) ?_
              refine S.effN rfl rfl (.nf (.store sz23 (lk 0 rfl rfl) (lk 1 rfl rfl) rfl (by first | rfl | simp) rfl (by first | rfl | simp [V.offOf]) (by first | rfl | simp) (by first | rfl | simp)) (by (try simp only [List.set_cons_zero, List.set_cons_succ, List.cons_append, List.nil_append, List.append_nil, List.length_cons, List.length_nil, List.getD_cons_zero, List.getD_cons_succ, Nat.reduceAdd, Nat.reduceMul, Nat.zero_add, V.setAt_nil, V.setAt_st, V.setAt_arr, map_set']) <;> exact rfl) (by (try simp only [List.set_cons_zero, List.set_cons_succ, List.cons_append, List.nil_append, List.append_nil, List.length_cons, List.length_nil, List.getD_cons_zero, List.getD_cons_succ, Nat.reduceAdd, Nat.reduceMul, Nat.zero_add, V.setAt_nil, V.setAt_st, V.setAt_arr, map_set']) <;> exact rfl)) (by first | exact trivial | exact rfl | exact ⟨rfl, rfl⟩) ?_
              refine S.sil 13 rfl rfl (fun _ hF => .assign cI) ?_
              refine S.nil ?_
              refine thenQ_n ?_
              refine AWp.cut (ι := {p : List Lock × Lock × Int // InvH p.1 all ∧ (p.2.2 = 0 → Good p.1 all d.I p.2.1)}) (fun ⟨⟨s2, x, f⟩, _⟩ => ⟨[(7, .ptr 1 [] 0), (9, .ptr 2 [] 0), (11, .ptr 3 [] 0), (12, .ptr 4 [] 0), (13, .int .i64 f), (35, .sl 4 .no (l.map encDo)), (36, .int .i64 ((l.length : Nat) : Int)), (37, .int .i64 (i : Int))], [.cells (encLock (newLock h 0).1), .cells (.arr 4 (List.map encLock s2)), .cells (encLock all), .cells (encDo d), .cells (encLock x)]⟩) ?_ ?_
              · skip
                refine AWp.seq ?_
                refine W.reg [0, 1] rfl ?_
                first | refine S.sil 63 rfl rfl (fun _ hF => .nv (.fieldAddr lay37 rfl rfl (lk 7 rfl rfl)) (by (try simp only [List.set_cons_zero, List.set_cons_succ, List.cons_append, List.nil_append, List.append_nil, List.length_cons, List.length_nil, List.getD_cons_zero, List.getD_cons_succ, Nat.reduceAdd, Nat.reduceMul, Nat.zero_add, V.setAt_nil, V.setAt_st, V.setAt_arr, map_set']) <;> exact rfl)) ?_ | refine S.sil 63 rfl rfl (fun _ hF => .fieldAddrC lay37 rfl rfl (lk 7 rfl rfl) rfl (by first | rfl | simp)) ?_
                first | refine S.qui 64 rfl rfl (fun _ => .load sz3 ag3 (lk 0 rfl rfl) (by first | rfl | simp) rfl (by first | rfl | simp [V.offOf]) (by first | rfl | (simp; done) | (simp; omega)) (by first | rfl | simp)) ?_ | refine S.sil 64 rfl rfl (fun _ hF => .loadC sz3 ag3 (lk 0 rfl rfl) (by first | rfl | simp) (by first | rfl | simp)) ?_
                refine S.nil ?_
                refine thenQ_n ?_
                refine AWp.block ?_
                refine AWp.seq ?_
                refine W.reg [0, 1] rfl ?_
                refine S.sil 66 rfl rfl (fun _ hF => .eql (lk 0 rfl rfl) cI) ?_
                refine S.sil 65 rfl rfl (fun _ hF => .assign (lk 0 rfl rfl)) ?_
                refine S.nil ?_
                refine thenQ_n ?_
                refine AWp.cond (lk 0 rfl rfl) (fun c4 => ?_) (fun c4 => ?_)
                · try simp only [decide_eq_true_eq, decide_eq_false_iff_not, Bool.not_eq_true', Bool.not_eq_false', Bool.and_eq_true, Bool.or_eq_true, Bool.and_eq_false_iff, Bool.or_eq_false_iff, Bool.not_eq_true, Bool.not_eq_false, ite_eq_left_iff] at c4
                  refine W.reg [0, 1, 2, 3, 4, 5, 6, 7, 8, 9, 10] rfl ?_
                  first | refine S.qui 68 rfl rfl (fun _ => .load sz23 ag23 (lk 5 rfl rfl) (by first | rfl | simp) rfl (by first | rfl | simp [V.offOf]) (by first | rfl | (simp; done) | (simp; omega)) (by first | rfl | simp)) ?_ | refine S.sil 68 rfl rfl (fun _ hF => .loadC sz23 ag23 (lk 5 rfl rfl) (by first | rfl | simp) (by first | rfl | simp)) ?_
                  first | refine S.sil 69 rfl rfl (fun _ hF => .nv (.fieldAddr lay37 rfl rfl (lk 12 rfl rfl)) (by (try simp only [List.set_cons_zero, List.set_cons_succ, List.cons_append, List.nil_append, List.append_nil, List.length_cons, List.length_nil, List.getD_cons_zero, List.getD_cons_succ, Nat.reduceAdd, Nat.reduceMul, Nat.zero_add, V.setAt_nil, V.setAt_st, V.setAt_arr, map_set']) <;> exact rfl)) ?_ | refine S.sil 69 rfl rfl (fun _ hF => .fieldAddrC lay37 rfl rfl (lk 12 rfl rfl) rfl (by first | rfl | simp)) ?_
                  first | refine S.qui 70 rfl rfl (fun _ => .load sz3 ag3 (lk 0 rfl rfl) (by first | rfl | simp) rfl (by first | rfl | simp [V.offOf]) (by first | rfl | (simp; done) | (simp; omega)) (by first | rfl | simp)) ?_ | refine S.sil 70 rfl rfl (fun _ hF => .loadC sz3 ag3 (lk 0 rfl rfl) (by first | rfl | simp) (by first | rfl | simp)) ?_
                  first | refine S.sil 71 rfl rfl (fun _ hF => .nv (.fieldAddr lay37 rfl rfl (lk 14 rfl rfl)) (by (try simp only [List.set_cons_zero, List.set_cons_succ, List.cons_append, List.nil_append, List.append_nil, List.length_cons, List.length_nil, List.getD_cons_zero, List.getD_cons_succ, Nat.reduceAdd, Nat.reduceMul, Nat.zero_add, V.setAt_nil, V.setAt_st, V.setAt_arr, map_set']) <;> exact rfl)) ?_ | refine S.sil 71 rfl rfl (fun _ hF => .fieldAddrC lay37 rfl rfl (lk 14 rfl rfl) rfl (by first | rfl | simp)) ?_
                  first | refine S.qui 72 rfl rfl (fun _ => .load sz3 ag3 (lk 0 rfl rfl) (by first | rfl | simp) rfl (by first | rfl | simp [V.offOf]) (by first | rfl | (simp; done) | (simp; omega)) (by first | rfl | simp)) ?_ | refine S.sil 72 rfl rfl (fun _ hF => .loadC sz3 ag3 (lk 0 rfl rfl) (by first | rfl | simp) (by first | rfl | simp)) ?_
                  refine S.sil 73 rfl rfl (fun _ hF => .callQ ent15 cF (.c (lk 4 rfl rfl) (by first | exact V.sub.refl _ | exact V.sub.forget _ _ _ | exact V.sub.nils_no _ | exact V.sub.nils _) (.c (lk 2 rfl rfl) (by first | exact V.sub.refl _ | exact V.sub.forget _ _ _ | exact V.sub.nils_no _ | exact V.sub.nils _) (.c (lk 0 rfl rfl) (by first | exact V.sub.refl _ | exact V.sub.forget _ _ _ | exact V.sub.nils_no _ | exact V.sub.nils _) .nil))) (Write_ok _ _ _)) ?_
                  refine S.sil 67 rfl rfl (fun _ hF => .move (lk 0 rfl rfl)) ?_
                  refine S.sil 74 rfl rfl (fun _ hF => .extract (lk 0 rfl rfl) rfl) ?_
                  refine S.sil 75 rfl rfl (fun _ hF => .extract (lk 1 rfl rfl) rfl) ?_
                  refine S.effN rfl rfl (.nf (.store sz23 (lk 14 rfl rfl) (lk 1 rfl rfl) rfl (by first | rfl | simp) rfl (by first | rfl | simp [V.offOf]) (by first | rfl | simp) (by first | rfl | simp)) (by (try simp only [List.set_cons_zero, List.set_cons_succ, List.cons_append, List.nil_append, List.append_nil, List.length_cons, List.length_nil, List.getD_cons_zero, List.getD_cons_succ, Nat.reduceAdd, Nat.reduceMul, Nat.zero_add, V.setAt_nil, V.setAt_st, V.setAt_arr, map_set']) <;> exact rfl) (by (try simp only [List.set_cons_zero, List.set_cons_succ, List.cons_append, List.nil_append, List.append_nil, List.length_cons, List.length_nil, List.getD_cons_zero, List.getD_cons_succ, Nat.reduceAdd, Nat.reduceMul, Nat.zero_add, V.setAt_nil, V.setAt_st, V.setAt_arr, map_set']) <;> exact rfl)) (by first | exact trivial | exact rfl | exact ⟨rfl, rfl⟩) ?_
                  refine S.sil 13 rfl rfl (fun _ hF => .assign (lk 0 rfl rfl)) ?_
                  refine S.nil ?_
                  refine blockQ_n ?_
                  refine thenQ_n ?_
                  refine ⟨⟨⟨s, _, _⟩, inv, inv.write (n := d.N) hI⟩, ?_⟩
                  exact Wk.to 5 (by decide) rfl (.eq (lk 22 rfl rfl) rfl (.eq (lk 23 rfl rfl) rfl (.eq (lk 21 rfl rfl) rfl (.eq (lk 15 rfl rfl) rfl (.eq (lk 0 rfl rfl) rfl (.eq (lk 24 rfl rfl) rfl (.eq (lk 25 rfl rfl) rfl (.eq (lk 26 rfl rfl) rfl .nil)))))))) (by first | rfl | simp [envLt, V.lt]) (by first | rfl | simp [objsLt, AObj.lt, V.lt, -List.map_set])
                · try simp only [decide_eq_true_eq, decide_eq_false_iff_not, Bool.not_eq_true', Bool.not_eq_false', Bool.and_eq_true, Bool.or_eq_true, Bool.and_eq_false_iff, Bool.or_eq_false_iff, Bool.not_eq_true, Bool.not_eq_false, ite_eq_left_iff] at c4
                  refine AWp.seq ?_
                  refine W.reg [0, 1] rfl ?_
                  refine S.sil 77 rfl rfl (fun _ hF => .eql (lk 2 rfl rfl) cI) ?_
                  refine S.sil 76 rfl rfl (fun _ hF => .assign (lk 0 rfl rfl)) ?_
                  refine S.nil ?_
                  refine thenQ_n ?_
                  refine AWp.cond (lk 0 rfl rfl) (fun c5 => ?_) (fun c5 => ?_)
                  · try simp only [decide_eq_true_eq, decide_eq_false_iff_not, Bool.not_eq_true', Bool.not_eq_false', Bool.and_eq_true, Bool.or_eq_true, Bool.and_eq_false_iff, Bool.or_eq_false_iff, Bool.not_eq_true, Bool.not_eq_false, ite_eq_left_iff] at c5
                    refine W.reg [0, 1, 2, 3, 4, 5, 6, 7, 8, 9, 10] rfl ?_
                    first | refine S.qui 79 rfl rfl (fun _ => .load sz23 ag23 (lk 7 rfl rfl) (by first | rfl | simp) rfl (by first | rfl | simp [V.offOf]) (by first | rfl | (simp; done) | (simp; omega)) (by first | rfl | simp)) ?_ | refine S.sil 79 rfl rfl (fun _ hF => .loadC sz23 ag23 (lk 7 rfl rfl) (by first | rfl | simp) (by first | rfl | simp)) ?_
                    first | refine S.sil 80 rfl rfl (fun _ hF => .nv (.fieldAddr lay37 rfl rfl (lk 14 rfl rfl)) (by (try simp only [List.set_cons_zero, List.set_cons_succ, List.cons_append, List.nil_append, List.append_nil, List.length_cons, List.length_nil, List.getD_cons_zero, List.getD_cons_succ, Nat.reduceAdd, Nat.reduceMul, Nat.zero_add, V.setAt_nil, V.setAt_st, V.setAt_arr, map_set']) <;> exact rfl)) ?_ | refine S.sil 80 rfl rfl (fun _ hF => .fieldAddrC lay37 rfl rfl (lk 14 rfl rfl) rfl (by first | rfl | simp)) ?_
                    first | refine S.qui 81 rfl rfl (fun _ => .load sz3 ag3 (lk 0 rfl rfl) (by first | rfl | simp) rfl (by first | rfl | simp [V.offOf]) (by first | rfl | (simp; done) | (simp; omega)) (by first | rfl | simp)) ?_ | refine S.sil 81 rfl rfl (fun _ hF => .loadC sz3 ag3 (lk 0 rfl rfl) (by first | rfl | simp) (by first | rfl | simp)) ?_
                    first | refine S.sil 82 rfl rfl (fun _ hF => .nv (.fieldAddr lay37 rfl rfl (lk 16 rfl rfl)) (by (try simp only [List.set_cons_zero, List.set_cons_succ, List.cons_append, List.nil_append, List.append_nil, List.length_cons, List.length_nil, List.getD_cons_zero, List.getD_cons_succ, Nat.reduceAdd, Nat.reduceMul, Nat.zero_add, V.setAt_nil, V.setAt_st, V.setAt_arr, map_set']) <;> exact rfl)) ?_ | refine S.sil 82 rfl rfl (fun _ hF => .fieldAddrC lay37 rfl rfl (lk 16 rfl rfl) rfl (by first | rfl | simp)) ?_
                    first | refine S.qui 83 rfl rfl (fun _ => .load sz3 ag3 (lk 0 rfl rfl) (by first | rfl | simp) rfl (by first | rfl | simp [V.offOf]) (by first | rfl | (simp; done) | (simp; omega)) (by first | rfl | simp)) ?_ | refine S.sil 83 rfl rfl (fun _ hF => .loadC sz3 ag3 (lk 0 rfl rfl) (by first | rfl | simp) (by first | rfl | simp)) ?_
                    refine S.sil 84 rfl rfl (fun _ hF => .callQ ent16 cF (.c (lk 4 rfl rfl) (by first | exact V.sub.refl _ | exact V.sub.forget _ _ _ | exact V.sub.nils_no _ | exact V.sub.nils _) (.c (lk 2 rfl rfl) (by first | exact V.sub.refl _ | exact V.sub.forget _ _ _ | exact V.sub.nils_no _ | exact V.sub.nils _) (.c (lk 0 rfl rfl) (by first | exact V.sub.refl _ | exact V.sub.forget _ _ _ | exact V.sub.nils_no _ | exact V.sub.nils _) .nil))) (Pass_ok _ _ _)) ?_
                    refine S.sil 78 rfl rfl (fun _ hF => .move (lk 0 rfl rfl)) ?_
                    refine S.sil 85 rfl rfl (fun _ hF => .extract (lk 0 rfl rfl) rfl) ?_
                    refine S.sil 86 rfl rfl (fun _ hF => .extract (lk 1 rfl rfl) rfl) ?_
                    refine S.effN rfl rfl (.nf (.store sz23 (lk 16 rfl rfl) (lk 1 rfl rfl) rfl (by first | rfl | simp) rfl (by first | rfl | simp [V.offOf]) (by first | rfl | simp) (by first | rfl | simp)) (by (try simp only [List.set_cons_zero, List.set_cons_succ, List.cons_append, List.nil_append, List.append_nil, List.length_cons, List.length_nil, List.getD_cons_zero, List.getD_cons_succ, Nat.reduceAdd, Nat.reduceMul, Nat.zero_add, V.setAt_nil, V.setAt_st, V.setAt_arr, map_set']) <;> exact rfl) (by (try simp only [List.set_cons_zero, List.set_cons_succ, List.cons_append, List.nil_append, List.append_nil, List.length_cons, List.length_nil, List.getD_cons_zero, List.getD_cons_succ, Nat.reduceAdd, Nat.reduceMul, Nat.zero_add, V.setAt_nil, V.setAt_st, V.setAt_arr, map_set']) <;> exact rfl)) (by first | exact trivial | exact rfl | exact ⟨rfl, rfl⟩) ?_
                    refine S.sil 13 rfl rfl (fun _ hF => .assign (lk 0 rfl rfl)) ?_
                    refine S.nil ?_
                    refine blockQ_n ?_
                    refine thenQ_n ?_
                    refine ⟨⟨⟨s, _, _⟩, inv, inv.pass (n := d.N) hI⟩, ?_⟩
                    exact Wk.to 5 (by decide) rfl (.eq (lk 24 rfl rfl) rfl (.eq (lk 25 rfl rfl) rfl (.eq (lk 23 rfl rfl) rfl (.eq (lk 17 rfl rfl) rfl (.eq (lk 0 rfl rfl) rfl (.eq (lk 26 rfl rfl) rfl (.eq (lk 27 rfl rfl) rfl (.eq (lk 28 rfl rfl) rfl .nil)))))))) (by first | rfl | simp [envLt, V.lt]) (by first | rfl | simp [objsLt, AObj.lt, V.lt, -List.map_set])
                  · try simp only [decide_eq_true_eq, decide_eq_false_iff_not, Bool.not_eq_true', Bool.not_eq_false', Bool.and_eq_true, Bool.or_eq_true, Bool.and_eq_false_iff, Bool.or_eq_false_iff, Bool.not_eq_true, Bool.not_eq_false, ite_eq_left_iff] at c5
                    refine AWp.seq ?_
                    refine W.reg [0, 1] rfl ?_
                    refine S.sil 88 rfl rfl (fun _ hF => .eql (lk 4 rfl rfl) cI) ?_
                    refine S.sil 87 rfl rfl (fun _ hF => .assign (lk 0 rfl rfl)) ?_
                    refine S.nil ?_
                    refine thenQ_n ?_
                    refine AWp.prune (.eq (lk 0 rfl rfl) rfl (.eq (lk 8 rfl rfl) rfl (.eq (lk 9 rfl rfl) rfl (.eq (lk 15 rfl rfl) rfl (.eq (lk 16 rfl rfl) rfl (.eq (lk 17 rfl rfl) rfl (.eq (lk 18 rfl rfl) rfl (.eq (lk 19 rfl rfl) rfl (.eq (lk 20 rfl rfl) rfl .nil))))))))) ?_
                    refine AWp.cond (lk 0 rfl rfl) (fun c6 => ?_) (fun c6 => ?_)
                    · try simp only [decide_eq_true_eq, decide_eq_false_iff_not, Bool.not_eq_true', Bool.not_eq_false', Bool.and_eq_true, Bool.or_eq_true, Bool.and_eq_false_iff, Bool.or_eq_false_iff, Bool.not_eq_true, Bool.not_eq_false, ite_eq_left_iff] at c6
                      refine AWp.seq ?_
                      refine W.reg [0, 1, 2, 3, 4, 5, 6, 7] rfl ?_
                      first | refine S.sil 89 rfl rfl (fun _ hF => .nv (.fieldAddr lay37 rfl rfl (lk 3 rfl rfl)) (by (try simp only [List.set_cons_zero, List.set_cons_succ, List.cons_append, List.nil_append, List.append_nil, List.length_cons, List.length_nil, List.getD_cons_zero, List.getD_cons_succ, Nat.reduceAdd, Nat.reduceMul, Nat.zero_add, V.setAt_nil, V.setAt_st, V.setAt_arr, map_set']) <;> exact rfl)) ?_ | refine S.sil 89 rfl rfl (fun _ hF => .fieldAddrC lay37 rfl rfl (lk 3 rfl rfl) rfl (by first | rfl | simp)) ?_
                      first | refine S.qui 90 rfl rfl (fun _ => .load sz3 ag3 (lk 0 rfl rfl) (by first | rfl | simp) rfl (by first | rfl | simp [V.offOf]) (by first | rfl | (simp; done) | (simp; omega)) (by first | rfl | simp)) ?_ | refine S.sil 90 rfl rfl (fun _ hF => .loadC sz3 ag3 (lk 0 rfl rfl) (by first | rfl | simp) (by first | rfl | simp)) ?_
                      refine S.sil 91 rfl rfl (fun _ hF => .geq (lk 0 rfl rfl) cI) ?_
                      refine S.sil 92 rfl rfl (fun _ hF => .move (lk 0 rfl rfl)) ?_
                      first | refine S.gsil 93 3 92 true rfl rfl rfl (lk 0 rfl rfl) (fun hB _ hF => .nv (.fieldAddr lay37 rfl rfl (lk 7 rfl rfl)) (by (try simp only [List.set_cons_zero, List.set_cons_succ, List.cons_append, List.nil_append, List.append_nil, List.length_cons, List.length_nil, List.getD_cons_zero, List.getD_cons_succ, Nat.reduceAdd, Nat.reduceMul, Nat.zero_add, V.setAt_nil, V.setAt_st, V.setAt_arr, map_set']) <;> exact rfl)) ?_ | refine S.gsil 93 3 92 true rfl rfl rfl (lk 0 rfl rfl) (fun hB _ hF => .fieldAddrC lay37 rfl rfl (lk 7 rfl rfl) rfl (by first | rfl | simp)) ?_
                      first | refine S.gqui 94 3 92 true rfl rfl rfl (lk 1 rfl rfl) (fun hB _ => .load sz3 ag3 (ifT hB (lk 0 rfl rfl)) (by first | rfl | simp) rfl (by first | rfl | simp [V.offOf]) (by first | rfl | (simp; done) | (simp; omega)) (by first | rfl | simp)) ?_ | refine S.gsil 94 3 92 true rfl rfl rfl (lk 1 rfl rfl) (fun hB _ hF => .loadC sz3 ag3 (ifT hB (lk 0 rfl rfl)) (by first | rfl | simp) (by first | rfl | simp)) ?_
                      refine S.gsil 95 3 92 true rfl rfl rfl (lk 2 rfl rfl) (fun hB _ hF => .leq (ifT hB (lk 0 rfl rfl)) cI) ?_
                      refine S.sil 96 rfl rfl (fun _ hF => .pickAnd (lk 3 rfl rfl) (fun h => ifT h (lk 0 rfl rfl)) cB) ?_
                      refine S.nil ?_
                      refine thenQ_n ?_
                      refine AWp.cond (lk 0 rfl rfl) (fun c7 => ?_) (fun c7 => ?_)
                      · try simp only [decide_eq_true_eq, decide_eq_false_iff_not, Bool.not_eq_true', Bool.not_eq_false', Bool.and_eq_true, Bool.or_eq_true, Bool.and_eq_false_iff, Bool.or_eq_false_iff, Bool.not_eq_true, Bool.not_eq_false, ite_eq_left_iff] at c7
                        have hK : isR d.K = true := isR_iff.2 (by omega)
                        have hKn := toNat_lt16 hK
                        refine W.regD [0, 1, 2, 3, 4, 5, 6, 7, 8, 9] mixed ?_
                        first | refine S.sil 97 rfl rfl (fun _ hF => .nv (.fieldAddr lay37 rfl rfl (lk 11 rfl rfl)) (by (try simp only [List.set_cons_zero, List.set_cons_succ, List.cons_append, List.nil_append, List.append_nil, List.length_cons, List.length_nil, List.getD_cons_zero, List.getD_cons_succ, Nat.reduceAdd, Nat.reduceMul, Nat.zero_add, V.setAt_nil, V.setAt_st, V.setAt_arr, map_set']) <;> exact rfl)) ?_ | refine S.sil 97 rfl rfl (fun _ hF => .fieldAddrC lay37 rfl rfl (lk 11 rfl rfl) rfl (by first | rfl | simp)) ?_
                        first | refine S.qui 98 rfl rfl (fun _ => .load sz3 ag3 (lk 0 rfl rfl) (by first | rfl | simp) rfl (by first | rfl | simp [V.offOf]) (by first | rfl | (simp; done) | (simp; omega)) (by first | rfl | simp)) ?_ | refine S.sil 98 rfl rfl (fun _ hF => .loadC sz3 ag3 (lk 0 rfl rfl) (by first | rfl | simp) (by first | rfl | simp)) ?_
                        first | refine S.qui 99 rfl rfl (fun _ => .load sz23 ag23 (lk 12 rfl rfl) (by first | rfl | simp) rfl (by first | rfl | simp [V.offOf]) (by first | rfl | (simp; done) | (simp; omega)) (by first | rfl | simp)) ?_ | refine S.sil 99 rfl rfl (fun _ hF => .loadC sz23 ag23 (lk 12 rfl rfl) (by first | rfl | simp) (by first | rfl | simp)) ?_
                        first | refine S.sil 100 rfl rfl (fun _ hF => .nv (.fieldAddr lay37 rfl rfl (lk 14 rfl rfl)) (by (try simp only [List.set_cons_zero, List.set_cons_succ, List.cons_append, List.nil_append, List.append_nil, List.length_cons, List.length_nil, List.getD_cons_zero, List.getD_cons_succ, Nat.reduceAdd, Nat.reduceMul, Nat.zero_add, V.setAt_nil, V.setAt_st, V.setAt_arr, map_set']) <;> exact rfl)) ?_ | refine S.sil 100 rfl rfl (fun _ hF => .fieldAddrC lay37 rfl rfl (lk 14 rfl rfl) rfl (by first | rfl | simp)) ?_
                        first | refine S.qui 101 rfl rfl (fun _ => .load sz3 ag3 (lk 0 rfl rfl) (by first | rfl | simp) rfl (by first | rfl | simp [V.offOf]) (by first | rfl | (simp; done) | (simp; omega)) (by first | rfl | simp)) ?_ | refine S.sil 101 rfl rfl (fun _ hF => .loadC sz3 ag3 (lk 0 rfl rfl) (by first | rfl | simp) (by first | rfl | simp)) ?_
                        first | refine S.sil 102 rfl rfl (fun _ hF => .nv (.indexAddr arr33 (lk 17 rfl rfl) (lk 0 rfl rfl) (isR_iff.1 hK).1 (isR_iff.1 hK).2) (by (try simp only [List.set_cons_zero, List.set_cons_succ, List.cons_append, List.nil_append, List.append_nil, List.length_cons, List.length_nil, List.getD_cons_zero, List.getD_cons_succ, Nat.reduceAdd, Nat.reduceMul, Nat.zero_add, V.setAt_nil, V.setAt_st, V.setAt_arr, map_set']) <;> exact rfl)) ?_ | refine S.sil 102 rfl rfl (fun _ hF => .indexAddrC arr33 (lk 17 rfl rfl) (lk 0 rfl rfl) (isR_iff.1 hK).1 (isR_iff.1 hK).2 rfl) ?_
                        first | refine S.qui 103 rfl rfl (fun _ => .load sz23 ag23 (lk 0 rfl rfl) (by first | rfl | simp) (at_map encLock lock0 (by omega)) (by first | rfl | simp [V.offOf]) (by first | rfl | (simp; done) | (simp; omega)) (by first | rfl | simp)) ?_ | refine S.sil 103 rfl rfl (fun _ hF => .loadC sz23 ag23 (lk 0 rfl rfl) (by first | rfl | simp) (by first | rfl | simp)) ?_
                        refine S.sil 104 rfl rfl (fun _ hF => .callQ ent11 cF (.c (lk 4 rfl rfl) (by first | exact V.sub.refl _ | exact V.sub.forget _ _ _ | exact V.sub.nils_no _ | exact V.sub.nils _) (.c (lk 0 rfl rfl) (by first | exact V.sub.refl _ | exact V.sub.forget _ _ _ | exact V.sub.nils_no _ | exact V.sub.nils _) .nil)) (Join_ok _ _)) ?_
                        first | refine S.sil 105 rfl rfl (fun _ hF => .nv (.indexAddr arr33 (lk 20 rfl rfl) (lk 6 rfl rfl) (isR_iff.1 hI).1 (isR_iff.1 hI).2) (by (try simp only [List.set_cons_zero, List.set_cons_succ, List.cons_append, List.nil_append, List.append_nil, List.length_cons, List.length_nil, List.getD_cons_zero, List.getD_cons_succ, Nat.reduceAdd, Nat.reduceMul, Nat.zero_add, V.setAt_nil, V.setAt_st, V.setAt_arr, map_set']) <;> exact rfl)) ?_ | refine S.sil 105 rfl rfl (fun _ hF => .indexAddrC arr33 (lk 20 rfl rfl) (lk 6 rfl rfl) (isR_iff.1 hI).1 (isR_iff.1 hI).2 rfl) ?_
                        refine S.effN rfl rfl (.nf (.store sz23 (lk 0 rfl rfl) (lk 1 rfl rfl) rfl (by first | rfl | simp) (at_map encLock lock0 (by omega)) (by first | rfl | simp [V.offOf]) (by first | rfl | simp) (by first | rfl | simp)) (by (try simp only [List.set_cons_zero, List.set_cons_succ, List.cons_append, List.nil_append, List.append_nil, List.length_cons, List.length_nil, List.getD_cons_zero, List.getD_cons_succ, Nat.reduceAdd, Nat.reduceMul, Nat.zero_add, V.setAt_nil, V.setAt_st, V.setAt_arr, map_set']) <;> exact rfl) (by (try simp only [List.set_cons_zero, List.set_cons_succ, List.cons_append, List.nil_append, List.append_nil, List.length_cons, List.length_nil, List.getD_cons_zero, List.getD_cons_succ, Nat.reduceAdd, Nat.reduceMul, Nat.zero_add, V.setAt_nil, V.setAt_st, V.setAt_arr, map_set']) <;> exact rfl)) (by first | exact trivial | exact rfl | exact ⟨rfl, rfl⟩) ?_
                        refine S.nilD (by kernel_rfl) ?_
                        refine blockQ_n ?_
                        refine thenQ_n ?_
                        refine ⟨⟨⟨_, s.getD d.I.toNat lock0, 1⟩, inv.join hI hK, fun h => by simp at h⟩, ?_⟩
                        exact Wk.to 5 (by decide) rfl (.eq (lk 21 rfl rfl) rfl (.eq (lk 22 rfl rfl) rfl (.eq (lk 20 rfl rfl) rfl (.eq (lk 19 rfl rfl) rfl (.eq (lk 18 rfl rfl) rfl (.eq (lk 23 rfl rfl) rfl (.eq (lk 24 rfl rfl) rfl (.eq (lk 25 rfl rfl) rfl .nil)))))))) (by first | rfl | simp [envLt, V.lt]) (by first | rfl | simp [objsLt, AObj.lt, V.lt, -List.map_set])
                      · try simp only [decide_eq_true_eq, decide_eq_false_iff_not, Bool.not_eq_true', Bool.not_eq_false', Bool.and_eq_true, Bool.or_eq_true, Bool.and_eq_false_iff, Bool.or_eq_false_iff, Bool.not_eq_true, Bool.not_eq_false, ite_eq_left_iff] at c7
                        refine AWp.skip ?_
                        refine blockQ_n ?_
                        refine thenQ_n ?_
                        refine ⟨⟨⟨s, s.getD d.I.toNat lock0, 1⟩, inv, fun h => by simp at h⟩, ?_⟩
                        exact Wk.to 5 (by decide) rfl (.eq (lk 12 rfl rfl) rfl (.eq (lk 13 rfl rfl) rfl (.eq (lk 11 rfl rfl) rfl (.eq (lk 10 rfl rfl) rfl (.eq (lk 9 rfl rfl) rfl (.eq (lk 14 rfl rfl) rfl (.eq (lk 15 rfl rfl) rfl (.eq (lk 16 rfl rfl) rfl .nil)))))))) (by first | rfl | simp [envLt, V.lt]) (by first | rfl | simp [objsLt, AObj.lt, V.lt, -List.map_set])
                    · try simp only [decide_eq_true_eq, decide_eq_false_iff_not, Bool.not_eq_true', Bool.not_eq_false', Bool.and_eq_true, Bool.or_eq_true, Bool.and_eq_false_iff, Bool.or_eq_false_iff, Bool.not_eq_true, Bool.not_eq_false, ite_eq_left_iff] at c6
                      refine AWp.skip ?_
                      refine blockQ_n ?_
                      refine thenQ_n ?_
                      refine ⟨⟨⟨s, s.getD d.I.toNat lock0, 1⟩, inv, fun h => by simp at h⟩, ?_⟩
                      exact Wk.to 5 (by decide) rfl (.eq (lk 4 rfl rfl) rfl (.eq (lk 5 rfl rfl) rfl (.eq (lk 3 rfl rfl) rfl (.eq (lk 2 rfl rfl) rfl (.eq (lk 1 rfl rfl) rfl (.eq (lk 6 rfl rfl) rfl (.eq (lk 7 rfl rfl) rfl (.eq (lk 8 rfl rfl) rfl .nil)))))))) (by first | rfl | simp [envLt, V.lt]) (by first | rfl | simp [objsLt, AObj.lt, V.lt, -List.map_set])
              · rintro ⟨⟨s2, x, f⟩, inv2, hgood⟩
                have inv2 : InvH s2 all := inv2
                have hgood : f = 0 → Good s2 all d.I x := hgood
                have hlen2 := inv2.len
                refine AWp.seq ?_
                refine W.reg [0, 1] rfl ?_
                refine S.sil 106 rfl rfl (fun _ hF => .move (lk 4 rfl rfl)) ?_
                refine S.sil 107 rfl rfl (fun _ hF => .eql (lk 0 rfl rfl) cI) ?_
                refine S.nil ?_
                refine thenQ_n ?_
                refine AWp.cond (lk 0 rfl rfl) (fun c8 => ?_) (fun c8 => ?_)
                · try simp only [decide_eq_true_eq, decide_eq_false_iff_not, Bool.not_eq_true', Bool.not_eq_false', Bool.and_eq_true, Bool.or_eq_true, Bool.and_eq_false_iff, Bool.or_eq_false_iff, Bool.not_eq_true, Bool.not_eq_false, ite_eq_left_iff] at c8
                  have hg := hgood c8
                  refine AWp.seq ?_
                  refine AWp.seq ?_
                  refine W.regD [0, 1, 2, 3, 4, 5, 6, 7, 8, 9, 10, 11, 12] mixed ?_
                  first | refine S.sil 108 rfl rfl (fun _ hF => .nv (.fieldAddr lay37 rfl rfl (lk 4 rfl rfl)) (by (try simp only [List.set_cons_zero, List.set_cons_succ, List.cons_append, List.nil_append, List.append_nil, List.length_cons, List.length_nil, List.getD_cons_zero, List.getD_cons_succ, Nat.reduceAdd, Nat.reduceMul, Nat.zero_add, V.setAt_nil, V.setAt_st, V.setAt_arr, map_set']) <;> exact rfl)) ?_ | refine S.sil 108 rfl rfl (fun _ hF => .fieldAddrC lay37 rfl rfl (lk 4 rfl rfl) rfl (by first | rfl | simp)) ?_
                  first | refine S.qui 109 rfl rfl (fun _ => .load sz3 ag3 (lk 0 rfl rfl) (by first | rfl | simp) rfl (by first | rfl | simp [V.offOf]) (by first | rfl | (simp; done) | (simp; omega)) (by first | rfl | simp)) ?_ | refine S.sil 109 rfl rfl (fun _ hF => .loadC sz3 ag3 (lk 0 rfl rfl) (by first | rfl | simp) (by first | rfl | simp)) ?_
                  first | refine S.sil 110 rfl rfl (fun _ hF => .nv (.fieldAddr lay23 rfl rfl (lk 5 rfl rfl)) (by (try simp only [List.set_cons_zero, List.set_cons_succ, List.cons_append, List.nil_append, List.append_nil, List.length_cons, List.length_nil, List.getD_cons_zero, List.getD_cons_succ, Nat.reduceAdd, Nat.reduceMul, Nat.zero_add, V.setAt_nil, V.setAt_st, V.setAt_arr, map_set']) <;> exact rfl)) ?_ | refine S.sil 110 rfl rfl (fun _ hF => .fieldAddrC lay23 rfl rfl (lk 5 rfl rfl) rfl (by first | rfl | simp)) ?_
                  first | refine S.qui 111 rfl rfl (fun _ => .load sz3 ag3 (lk 0 rfl rfl) (by first | rfl | simp) rfl (by first | rfl | simp [V.offOf]) (by first | rfl | (simp; done) | (simp; omega)) (by first | rfl | simp)) ?_ | refine S.sil 111 rfl rfl (fun _ hF => .loadC sz3 ag3 (lk 0 rfl rfl) (by first | rfl | simp) (by first | rfl | simp)) ?_
                  refine S.sil 112 rfl rfl (fun _ hF => .neq (lk 2 rfl rfl) (lk 0 rfl rfl)) ?_
                  refine S.sil 113 rfl rfl (fun _ hF => .move (lk 0 rfl rfl)) ?_
                  first | refine S.gsil 114 5 113 false rfl rfl rfl (lk 0 rfl rfl) (fun hB _ hF => .nv (.fieldAddr lay37 rfl rfl (lk 10 rfl rfl)) (by (try simp only [List.set_cons_zero, List.set_cons_succ, List.cons_append, List.nil_append, List.append_nil, List.length_cons, List.length_nil, List.getD_cons_zero, List.getD_cons_succ, Nat.reduceAdd, Nat.reduceMul, Nat.zero_add, V.setAt_nil, V.setAt_st, V.setAt_arr, map_set']) <;> exact rfl)) ?_ | refine S.gsil 114 5 113 false rfl rfl rfl (lk 0 rfl rfl) (fun hB _ hF => .fieldAddrC lay37 rfl rfl (lk 10 rfl rfl) rfl (by first | rfl | simp)) ?_
                  first | refine S.gqui 115 5 113 false rfl rfl rfl (lk 1 rfl rfl) (fun hB _ => .load sz3 ag3 (ifT hB (lk 0 rfl rfl)) (by first | rfl | simp) rfl (by first | rfl | simp [V.offOf]) (by first | rfl | (simp; done) | (simp; omega)) (by first | rfl | simp)) ?_ | refine S.gsil 115 5 113 false rfl rfl rfl (lk 1 rfl rfl) (fun hB _ hF => .loadC sz3 ag3 (ifT hB (lk 0 rfl rfl)) (by first | rfl | simp) (by first | rfl | simp)) ?_
                  first | refine S.gsil 116 5 113 false rfl rfl rfl (lk 2 rfl rfl) (fun hB _ hF => .nv (.indexAddr arr33 (lk 10 rfl rfl) (ifT hB (lk 0 rfl rfl)) (isR_iff.1 hI).1 (isR_iff.1 hI).2) (by (try simp only [List.set_cons_zero, List.set_cons_succ, List.cons_append, List.nil_append, List.append_nil, List.length_cons, List.length_nil, List.getD_cons_zero, List.getD_cons_succ, Nat.reduceAdd, Nat.reduceMul, Nat.zero_add, V.setAt_nil, V.setAt_st, V.setAt_arr, map_set']) <;> exact rfl)) ?_ | refine S.gsil 116 5 113 false rfl rfl rfl (lk 2 rfl rfl) (fun hB _ hF => .indexAddrC arr33 (lk 10 rfl rfl) (ifT hB (lk 0 rfl rfl)) (isR_iff.1 hI).1 (isR_iff.1 hI).2 rfl) ?_
                  first | refine S.gqui 117 5 113 false rfl rfl rfl (lk 3 rfl rfl) (fun hB _ => .load sz23 ag23 (ifT hB (lk 0 rfl rfl)) (by first | rfl | simp) (at_map encLock lock0 (by omega)) (by first | rfl | simp [V.offOf]) (by first | rfl | (simp; done) | (simp; omega)) (by first | rfl | simp)) ?_ | refine S.gsil 117 5 113 false rfl rfl rfl (lk 3 rfl rfl) (fun hB _ hF => .loadC sz23 ag23 (ifT hB (lk 0 rfl rfl)) (by first | rfl | simp) (by first | rfl | simp)) ?_
                  first | refine S.gqui 118 5 113 false rfl rfl rfl (lk 4 rfl rfl) (fun hB _ => .load sz23 ag23 (lk 13 rfl rfl) (by first | rfl | simp) rfl (by first | rfl | simp [V.offOf]) (by first | rfl | (simp; done) | (simp; omega)) (by first | rfl | simp)) ?_ | refine S.gsil 118 5 113 false rfl rfl rfl (lk 4 rfl rfl) (fun hB _ hF => .loadC sz23 ag23 (lk 13 rfl rfl) (by first | rfl | simp) (by first | rfl | simp)) ?_
                  refine S.gsil 119 5 113 false rfl rfl rfl (lk 5 rfl rfl) (fun hB _ hF => .neqV eqt23 (ifT hB (lk 1 rfl rfl)) (ifT hB (lk 0 rfl rfl)) (by first | rfl | simp) (by first | rfl | simp) rfl rfl) ?_
                  refine S.sil 120 rfl rfl (fun _ hF => .pickOr (lk 6 rfl rfl) cB (fun h => ifT h (lk 0 rfl rfl))) ?_
                  refine S.nilD (by kernel_rfl) ?_
                  refine thenQ_n ?_
                  refine AWp.prune (.eq (lk 0 rfl rfl) rfl (.eq (lk 15 rfl rfl) rfl (.eq (lk 16 rfl rfl) rfl (.eq (lk 17 rfl rfl) rfl (.eq (lk 18 rfl rfl) rfl (.eq (lk 20 rfl rfl) rfl (.eq (lk 21 rfl rfl) rfl (.eq (lk 22 rfl rfl) rfl .nil)))))))) ?_
                  refine AWp.cond (lk 0 rfl rfl) (fun c9 => ?_) (fun c9 => ?_)
                  · try simp only [decide_eq_true_eq, decide_eq_false_iff_not, Bool.not_eq_true', Bool.not_eq_false', Bool.and_eq_true, Bool.or_eq_true, Bool.and_eq_false_iff, Bool.or_eq_false_iff, Bool.not_eq_true, Bool.not_eq_false, ite_eq_left_iff] at c9
                    exfalso
                    rcases c9 with c9 | c9
                    · exact c9 hg.1
                    · rw [hg.2.1] at c9; simp at c9
                  · try simp only [decide_eq_true_eq, decide_eq_false_iff_not, Bool.not_eq_true', Bool.not_eq_false', Bool.and_eq_true, Bool.or_eq_true, Bool.and_eq_false_iff, Bool.or_eq_false_iff, Bool.not_eq_true, Bool.not_eq_false, ite_eq_left_iff] at c9
                    refine AWp.skip ?_
                    refine thenQ_n ?_
                    refine W.regF (fun H => H[4]? = some (AObj.cells (encLock x))) (by first | exact rfl | exact ⟨rfl, rfl⟩) [0, 1, 2, 3, 4, 5, 6] mixed ?_
                    first | refine S.sil 121 rfl rfl (fun _ hF => .nv (.fieldAddr lay37 rfl rfl (lk 3 rfl rfl)) (by (try simp only [List.set_cons_zero, List.set_cons_succ, List.cons_append, List.nil_append, List.append_nil, List.length_cons, List.length_nil, List.getD_cons_zero, List.getD_cons_succ, Nat.reduceAdd, Nat.reduceMul, Nat.zero_add, V.setAt_nil, V.setAt_st, V.setAt_arr, map_set']) <;> exact rfl)) ?_ | refine S.sil 121 rfl rfl (fun _ hF => .fieldAddrC lay37 rfl rfl (lk 3 rfl rfl) rfl (by first | rfl | simp)) ?_
                    first | refine S.qui 122 rfl rfl (fun _ => .load sz3 ag3 (lk 0 rfl rfl) (by first | rfl | simp) rfl (by first | rfl | simp [V.offOf]) (by first | rfl | (simp; done) | (simp; omega)) (by first | rfl | simp)) ?_ | refine S.sil 122 rfl rfl (fun _ hF => .loadC sz3 ag3 (lk 0 rfl rfl) (by first | rfl | simp) (by first | rfl | simp)) ?_
                    first | refine S.qui 123 rfl rfl (fun _ => .load sz23 ag23 (lk 6 rfl rfl) (by first | rfl | simp) rfl (by first | rfl | simp [V.offOf]) (by first | rfl | (simp; done) | (simp; omega)) (by first | rfl | simp)) ?_ | refine S.sil 123 rfl rfl (fun _ hF => .loadC sz23 ag23 (lk 6 rfl rfl) (by first | rfl | simp) (by first | rfl | simp)) ?_
                    refine S.sil 124 rfl rfl (fun _ hF => .load sz23 ag23 (lk 7 rfl rfl) hF rfl rfl rfl rfl) ?_
                    first | refine S.sil 125 rfl rfl (fun _ hF => .nv (.indexAddr arr33 (lk 5 rfl rfl) (lk 2 rfl rfl) (isR_iff.1 hI).1 (isR_iff.1 hI).2) (by (try simp only [List.set_cons_zero, List.set_cons_succ, List.cons_append, List.nil_append, List.append_nil, List.length_cons, List.length_nil, List.getD_cons_zero, List.getD_cons_succ, Nat.reduceAdd, Nat.reduceMul, Nat.zero_add, V.setAt_nil, V.setAt_st, V.setAt_arr, map_set']) <;> exact rfl)) ?_ | refine S.sil 125 rfl rfl (fun _ hF => .indexAddrC arr33 (lk 5 rfl rfl) (lk 2 rfl rfl) (isR_iff.1 hI).1 (isR_iff.1 hI).2 rfl) ?_
                    refine S.effN rfl rfl (.nf (.store sz23 (lk 0 rfl rfl) (lk 2 rfl rfl) rfl (by first | rfl | simp) (at_map encLock lock0 (by omega)) (by first | rfl | simp [V.offOf]) (by first | rfl | simp) (by first | rfl | simp)) (by (try simp only [List.set_cons_zero, List.set_cons_succ, List.cons_append, List.nil_append, List.append_nil, List.length_cons, List.length_nil, List.getD_cons_zero, List.getD_cons_succ, Nat.reduceAdd, Nat.reduceMul, Nat.zero_add, V.setAt_nil, V.setAt_st, V.setAt_arr, map_set']) <;> exact rfl) (by (try simp only [List.set_cons_zero, List.set_cons_succ, List.cons_append, List.nil_append, List.append_nil, List.length_cons, List.length_nil, List.getD_cons_zero, List.getD_cons_succ, Nat.reduceAdd, Nat.reduceMul, Nat.zero_add, V.setAt_nil, V.setAt_st, V.setAt_arr, map_set']) <;> exact rfl)) (by first | exact trivial | exact rfl | exact ⟨rfl, rfl⟩) ?_
                    refine S.effN rfl rfl (.nf (.store sz23 (lk 7 rfl rfl) (lk 1 rfl rfl) rfl (by first | rfl | simp) rfl (by first | rfl | simp [V.offOf]) (by first | rfl | simp) (by first | rfl | simp)) (by (try simp only [List.set_cons_zero, List.set_cons_succ, List.cons_append, List.nil_append, List.append_nil, List.length_cons, List.length_nil, List.getD_cons_zero, List.getD_cons_succ, Nat.reduceAdd, Nat.reduceMul, Nat.zero_add, V.setAt_nil, V.setAt_st, V.setAt_arr, map_set']) <;> exact rfl) (by (try simp only [List.set_cons_zero, List.set_cons_succ, List.cons_append, List.nil_append, List.append_nil, List.length_cons, List.length_nil, List.getD_cons_zero, List.getD_cons_succ, Nat.reduceAdd, Nat.reduceMul, Nat.zero_add, V.setAt_nil, V.setAt_st, V.setAt_arr, map_set']) <;> exact rfl)) (by first | exact trivial | exact rfl | exact ⟨rfl, rfl⟩) ?_
                    refine S.nilD (by kernel_rfl) ?_
                    refine blockQ_n ?_
                    refine thenQ_n ?_
                    refine W.reg [0, 1] rfl ?_
                    refine S.sil 126 rfl rfl (fun _ hF => .add (lk 12 rfl rfl) cI) ?_
                    refine S.sil 37 rfl rfl (fun _ hF => .move (lk 0 rfl rfl)) ?_
                    refine S.nil ?_
                    refine thenQ_n ?_
                    refine ⟨⟨⟨i + 1, s2.set d.I.toNat x, x⟩, by simp; omega, hg.2.2⟩, by simp; omega, ?_⟩
                    exact Wk.to 3 (by decide) rfl (.eq (lk 8 rfl rfl) rfl (.eq (lk 9 rfl rfl) rfl (.eq (lk 12 rfl rfl) rfl (.eq (lk 13 rfl rfl) rfl (.eq (lk 0 rfl rfl) (by rw [wrap_id (by omega) (by omega)]; rfl) .nil))))) (by first | rfl | simp [envLt, V.lt]) (by first | rfl | simp [objsLt, AObj.lt, V.lt, -List.map_set])
                · try simp only [decide_eq_true_eq, decide_eq_false_iff_not, Bool.not_eq_true', Bool.not_eq_false', Bool.and_eq_true, Bool.or_eq_true, Bool.and_eq_false_iff, Bool.or_eq_false_iff, Bool.not_eq_true, Bool.not_eq_false, ite_eq_left_iff] at c8
                  refine AWp.skip ?_
                  refine blockQ_n ?_
                  refine thenQ_n ?_
                  refine W.reg [0, 1] rfl ?_
                  refine S.sil 126 rfl rfl (fun _ hF => .add (lk 9 rfl rfl) cI) ?_
                  refine S.sil 37 rfl rfl (fun _ hF => .move (lk 0 rfl rfl)) ?_
                  refine S.nil ?_
                  refine thenQ_n ?_
                  refine ⟨⟨⟨i + 1, s2, all⟩, by simp; omega, inv2⟩, by simp; omega, ?_⟩
                  exact Wk.to 3 (by decide) rfl (.eq (lk 4 rfl rfl) rfl (.eq (lk 5 rfl rfl) rfl (.eq (lk 9 rfl rfl) rfl (.eq (lk 10 rfl rfl) rfl (.eq (lk 0 rfl rfl) (by rw [wrap_id (by omega) (by omega)]; rfl) .nil))))) (by first | rfl | simp [envLt, V.lt]) (by first | rfl | simp [objsLt, AObj.lt, V.lt, -List.map_set])
          · try simp only [decide_eq_true_eq, decide_eq_false_iff_not, Bool.not_eq_true', Bool.not_eq_false', Bool.and_eq_true, Bool.or_eq_true, Bool.and_eq_false_iff, Bool.or_eq_false_iff, Bool.not_eq_true, Bool.not_eq_false, ite_eq_left_iff] at c2
            refine AWp.exit ?_
            refine thenQ_x ?_
            refine thenQ_x ?_
            refine blockQ_x ?_
            refine thenQ_n ?_
            refine AWp.seq ?_
            refine W.reg [0, 1] rfl ?_
            refine S.sil 127 rfl rfl (fun _ hF => .callQ ent10 cF .nil (awake_ok)) ?_
            refine S.sil 4 rfl rfl (fun _ hF => .assign (lk 0 rfl rfl)) ?_
            refine S.nil ?_
            refine thenQ_n ?_
            refine AWp.ret ?_
            refine end1 rfl (lk 0 rfl rfl) rfl (by first | rfl | simp []) ?_
            rfl

end Go.Av
