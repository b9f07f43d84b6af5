/- Functions that the statements of this seat reach, each with what it answers. -/
import Derived.Test.YtemcahobfhomiaaProg
import Derived.KernelRfl
import Derived.Test.YtemcahobfhomiaaAvMLock
import Derived.Test.YtemcahobfhomiaaAvCore14
namespace Go.Av
open Go.Proofs
set_option linter.unusedVariables false
set_option linter.unusedSimpArgs false
set_option maxHeartbeats 4000000
noncomputable abbrev Pg : Program := Try.prog
theorem mixed : Pg.follows .mixedOrders = true := by kernel_rfl
theorem sz3 : szOf Pg 3 = some 1 := by kernel_rfl
theorem ag3 : aggOf Pg 3 = some false := by kernel_rfl
theorem und3 : Pg.underlying 3 = some (.int .i64) := by kernel_rfl
theorem zv3 : ZeroV Pg 3 (.int .i64 0) := ⟨((Pg.info? 3).bind (·.zero)).getD .nilFunc, (by kernel_rfl), (by kernel_rfl), (by kernel_rfl)⟩
theorem sz23 : szOf Pg 23 = some 4 := by kernel_rfl
theorem ag23 : aggOf Pg 23 = some true := by kernel_rfl
theorem lay23 : layOf Pg 23 = some [(0, 1, false), (1, 1, false), (2, 1, false), (3, 1, false)] := by kernel_rfl
theorem zv23 : ZeroV Pg 23 (.st [.int .i64 0, .int .i64 0, .int .i64 0, .int .i64 0]) := ⟨((Pg.info? 23).bind (·.zero)).getD .nilFunc, (by kernel_rfl), (by kernel_rfl), (by kernel_rfl)⟩
theorem sz34 : szOf Pg 34 = some 2 := by kernel_rfl
theorem ag34 : aggOf Pg 34 = some true := by kernel_rfl
theorem arr34 : arrOf Pg 34 = some (2, 1, false) := by kernel_rfl
theorem zv34 : ZeroV Pg 34 (.arr 1 (List.replicate 2 (.int .i64 0))) := ⟨((Pg.info? 34).bind (·.zero)).getD .nilFunc, (by kernel_rfl), (by kernel_rfl), (by kernel_rfl)⟩
theorem sz42 : szOf Pg 42 = some 1 := by kernel_rfl
theorem ag42 : aggOf Pg 42 = some false := by kernel_rfl
theorem sli42 : sliOf Pg 42 = some (3, 1, false, 8) := by kernel_rfl
theorem und42 : Pg.underlying 42 = some (.slice 3) := by kernel_rfl
theorem zv42 : ZeroV Pg 42 (.nils) := ⟨((Pg.info? 42).bind (·.zero)).getD .nilFunc, (by kernel_rfl), (by kernel_rfl), (by kernel_rfl)⟩
theorem sz46 : szOf Pg 46 = some 8 := by kernel_rfl
theorem ag46 : aggOf Pg 46 = some true := by kernel_rfl
theorem arr46 : arrOf Pg 46 = some (4, 2, true) := by kernel_rfl
theorem zv46 : ZeroV Pg 46 (.arr 2 (List.replicate 4 (.arr 1 (List.replicate 2 (.int .i64 0))))) := ⟨((Pg.info? 46).bind (·.zero)).getD .nilFunc, (by kernel_rfl), (by kernel_rfl), (by kernel_rfl)⟩
theorem ent9 : enters Pg 9 = true := by kernel_rfl
theorem ent13 : enters Pg 13 = true := by kernel_rfl
theorem ent18 : enters Pg 18 = true := by kernel_rfl
theorem ent19 : enters Pg 19 = true := by kernel_rfl
theorem ent20 : enters Pg 20 = true := by kernel_rfl
theorem ent21 : enters Pg 21 = true := by kernel_rfl
theorem ent22 : enters Pg 22 = true := by kernel_rfl

theorem Is_ok (n : Int) : PureC Pg 19 [.int .i64 n] (.bool (isN n)) := by
  refine PureC.of (CallSpec.of_body 9 0 Try.func19 rfl rfl rfl (by simp) ?_) (by simp []) (by simp [])
  refine AWp.seq ?_
  refine W.reg [0] rfl ?_
  refine S.sil 2 rfl rfl (fun _ hF => .assign cB) ?_
  refine S.nil ?_
  refine thenQ_n ?_
  refine AWp.seq ?_
  refine W.reg [0, 1, 2, 3, 4, 5, 6] rfl ?_
  refine S.sil 3 rfl rfl (fun _ hF => .move (lk 1 rfl rfl)) ?_
  refine S.sil 4 rfl rfl (fun _ hF => .geq (lk 0 rfl rfl) cI) ?_
  refine S.sil 5 rfl rfl (fun _ hF => .move (lk 0 rfl rfl)) ?_
  refine S.gsil 6 2 5 true rfl rfl rfl (lk 0 rfl rfl) (fun hB _ hF => .move (lk 4 rfl rfl)) ?_
  refine S.gsil 7 2 5 true rfl rfl rfl (lk 1 rfl rfl) (fun hB _ hF => .leq (ifT hB (lk 0 rfl rfl)) cI) ?_
  refine S.sil 8 rfl rfl (fun _ hF => .pickAnd (lk 2 rfl rfl) (fun h => ifT h (lk 0 rfl rfl)) cB) ?_
  refine S.sil 2 rfl rfl (fun _ hF => .assign (lk 0 rfl rfl)) ?_
  refine S.nil ?_
  refine thenQ_n ?_
  refine AWp.ret ?_
  refine end1 rfl (lk 0 rfl rfl) rfl (by first | rfl | simp []) ?_
  simp [isN]

theorem checked_ok (n : Int) (xs : List Int) (hx : xs.length ≤ 1000000) : PureC Pg 22 [.int .i64 n, .sl 1 .exact (xs.map (V.int .i64))] (checkedV n (xs ++ [n])) := by
  refine PureC.of (CallSpec.of_body 22 0 Try.func22 rfl rfl rfl (by simp) ?_) (by simp [checkedV]) (by simp [checkedV])
  refine AWp.seq ?_
  refine W.reg [0, 1] rfl ?_
  refine S.sil 4 rfl rfl (fun _ hF => .assign cI) ?_
  refine S.sil 5 rfl rfl (fun _ hF => .assign cI) ?_
  refine S.nil ?_
  refine thenQ_n ?_
  refine AWp.seq ?_
  refine AWp.seq ?_
  refine W.reg [0, 1, 2, 3, 4, 5] rfl ?_
  refine S.sil 8 rfl rfl (fun _ hF => .move (lk 3 rfl rfl)) ?_
  refine S.sil 9 rfl rfl (fun _ hF => .move (lk 3 rfl rfl)) ?_
  refine S.sil 10 rfl rfl (fun _ hF => .buildSliceL sli42 zv3 (by first | rfl | simp) rfl (by decide) (.cons (lk 0 rfl rfl) rfl (by first | rfl | simp) .nil)) ?_
  first | refine S.eff 11 rfl rfl (.nf (.append sli42 und42 zv3 (by first | rfl | simp) (by decide) (lk 2 rfl rfl) rfl (lk 0 rfl rfl) (by first | exact Rd.sl | exact Rd.nils | exact Rd.slo rfl rfl rfl (by decide)) (by simp; omega)) (by (try simp only [List.set_cons_zero, List.set_cons_succ, List.cons_append, List.nil_append, List.append_nil, List.length_cons, List.length_nil, List.getD_cons_zero, List.getD_cons_succ, Nat.reduceAdd, Nat.reduceMul, Nat.zero_add, V.setAt_nil, V.setAt_st, V.setAt_arr, map_set']) <;> exact rfl) (by (try simp only [List.set_cons_zero, List.set_cons_succ, List.cons_append, List.nil_append, List.append_nil, List.length_cons, List.length_nil, List.getD_cons_zero, List.getD_cons_succ, Nat.reduceAdd, Nat.reduceMul, Nat.zero_add, V.setAt_nil, V.setAt_st, V.setAt_arr, map_set']) <;> exact rfl)) (by first | exact trivial | exact rfl | exact ⟨rfl, rfl⟩) ?_ | refine S.new 11 rfl rfl (.nf (.appendX sli42 und42 zv3 (by first | rfl | simp) (by decide) (lk 2 rfl rfl) (by first | exact V.sub.refl _ | exact V.sub.nils _) (lk 0 rfl rfl) (by first | exact Rd.sl | exact Rd.nils | exact Rd.slo rfl rfl rfl (by decide)) (by simp; omega)) (by (try simp only [List.set_cons_zero, List.set_cons_succ, List.cons_append, List.nil_append, List.append_nil, List.length_cons, List.length_nil, List.getD_cons_zero, List.getD_cons_succ, Nat.reduceAdd, Nat.reduceMul, Nat.zero_add, V.setAt_nil, V.setAt_st, V.setAt_arr, map_set']) <;> exact rfl) (by (try simp only [List.set_cons_zero, List.set_cons_succ, List.cons_append, List.nil_append, List.append_nil, List.length_cons, List.length_nil, List.getD_cons_zero, List.getD_cons_succ, Nat.reduceAdd, Nat.reduceMul, Nat.zero_add, V.setAt_nil, V.setAt_st, V.setAt_arr, map_set']) <;> exact rfl)) (by first | exact trivial | exact rfl | exact ⟨rfl, rfl⟩) ?_
  first | refine S.sil 12 rfl rfl (fun _ hF => .len sli42 (lk 0 rfl rfl) (by first | exact V.sub.refl _ | exact V.sub.forget _ _ _ | exact V.sub.nils_no _ | exact V.sub.nils _)) ?_ | refine S.sil 12 rfl rfl (fun _ hF => .lenO sli42 (lk 0 rfl rfl)) ?_
  refine S.sil 13 rfl rfl (fun _ hF => .move cI) ?_
  refine S.nil ?_
  refine thenQ_n ?_
  refine AWp.block ?_
  refine AWp.loopS (ι := {i : Nat // i ≤ xs.length + 1 ∧ ∀ j, j < i → isN ((xs ++ [n]).getD j 0) = true}) (fun ⟨i, _⟩ => ⟨[(0, .int .i64 n), (11, .sl 1 (.tok 0) (xs.map (V.int .i64) ++ [.int .i64 n])), (12, .int .i64 ((xs.length + 1 : Nat) : Int)), (13, .int .i64 (i : Int))], [.tail]⟩) (fun ⟨i, _⟩ => xs.length + 1 - i) ⟨0, by omega, by intro j hj; omega⟩ ?_ ?_
  · exact Wk.to 1 (by decide) rfl (.eq (lk 8 rfl rfl) rfl (.eq (lk 2 rfl rfl) rfl (.eq (lk 1 rfl rfl) (by simp) (.eq (lk 0 rfl rfl) rfl .nil)))) (by first | rfl | simp [envLt, V.lt]) (by first | rfl | simp [objsLt, AObj.lt, V.lt, -List.map_set])
  · rintro ⟨i, hi1, hi2⟩
    refine AWp.seq ?_
    refine W.reg [0] rfl ?_
    refine S.sil 14 rfl rfl (fun _ hF => .lss (lk 3 rfl rfl) (lk 2 rfl rfl)) ?_
    refine S.nil ?_
    refine thenQ_n ?_
    refine AWp.seq ?_
    refine AWp.cond (lk 0 rfl rfl) (fun c0 => ?_) (fun c0 => ?_)
    · try simp only [decide_eq_true_eq, decide_eq_false_iff_not, Bool.not_eq_true', Bool.not_eq_false', Bool.and_eq_true, Bool.or_eq_true, Bool.and_eq_false_iff, Bool.or_eq_false_iff, Bool.not_eq_true, Bool.not_eq_false, ite_eq_left_iff] at c0
      have hu : (xs.map (V.int .i64) ++ [V.int .i64 n])[((i : Nat) : Int).toNat]? = some (.int .i64 ((xs ++ [n]).getD i 0)) := by have := map_get (V.int .i64) 0 (l := xs ++ [n]) (i := i) (by simp; omega); simpa using this
      refine AWp.skip ?_
      refine thenQ_n ?_
      refine AWp.seq ?_
      refine AWp.block ?_
      refine AWp.seq ?_
      refine W.reg [0, 1, 2] rfl ?_
      first | refine S.sil 15 rfl rfl (fun _ hF => .indexAddrS sli42 (lk 2 rfl rfl) (lk 4 rfl rfl) (by omega) (by simp; omega) hu) ?_ | refine S.sil 15 rfl rfl (fun _ hF => .nv (.indexAddrO sli42 (lk 2 rfl rfl) (lk 4 rfl rfl) (by omega) (by simp; omega)) (by (try simp only [List.set_cons_zero, List.set_cons_succ, List.cons_append, List.nil_append, List.append_nil, List.length_cons, List.length_nil, List.getD_cons_zero, List.getD_cons_succ, Nat.reduceAdd, Nat.reduceMul, Nat.zero_add, V.setAt_nil, V.setAt_st, V.setAt_arr, map_set']) <;> exact rfl)) ?_
      first | refine S.qui 16 rfl rfl (fun _ => .load sz3 ag3 (lk 0 rfl rfl) (by first | rfl | simp) rfl (by first | rfl | simp [V.offOf]) (by first | rfl | (simp; done) | (simp; omega)) (by first | rfl | simp)) ?_ | refine S.sil 16 rfl rfl (fun _ hF => .loadC sz3 ag3 (lk 0 rfl rfl) (by first | rfl | simp) (by first | rfl | simp)) ?_
      refine S.sil 7 rfl rfl (fun _ hF => .assign (lk 0 rfl rfl)) ?_
      refine S.nil ?_
      refine thenQ_n ?_
      refine AWp.seq ?_
      refine W.reg [0, 1, 2] rfl ?_
      refine S.sil 17 rfl rfl (fun _ hF => .move (lk 0 rfl rfl)) ?_
      refine S.sil 18 rfl rfl (fun _ hF => .callQ ent19 cF (.c (lk 0 rfl rfl) (by first | exact V.sub.refl _ | exact V.sub.forget _ _ _ | exact V.sub.nils_no _ | exact V.sub.nils _) .nil) (Is_ok _)) ?_
      refine S.sil 19 rfl rfl (fun _ hF => .not (lk 0 rfl rfl)) ?_
      refine S.nil ?_
      refine thenQ_n ?_
      refine AWp.cond (lk 0 rfl rfl) (fun c1 => ?_) (fun c1 => ?_)
      · try simp only [decide_eq_true_eq, decide_eq_false_iff_not, Bool.not_eq_true', Bool.not_eq_false', Bool.and_eq_true, Bool.or_eq_true, Bool.and_eq_false_iff, Bool.or_eq_false_iff, Bool.not_eq_true, Bool.not_eq_false, ite_eq_left_iff] at c1
        refine AWp.seq ?_
        refine W.reg [0, 1] rfl ?_
        refine S.sil 4 rfl rfl (fun _ hF => .assign cI) ?_
        refine S.sil 5 rfl rfl (fun _ hF => .assign cI) ?_
        refine S.nil ?_
        refine thenQ_n ?_
        refine AWp.ret ?_
        refine blockQ_r ?_
        refine thenQ_r ?_
        refine thenQ_r ?_
        refine blockQ_r ?_
        refine thenQ_r ?_
        refine endN rfl (.cons (.tmp (lk 1 rfl rfl) rfl) (.cons (.tmp (lk 0 rfl rfl) rfl) .nil)) rfl (by first | rfl | simp [V.ltL, checkedV]) ?_
        exact (checkedV_no (i := i) (by simp; omega) c1).symm
      · try simp only [decide_eq_true_eq, decide_eq_false_iff_not, Bool.not_eq_true', Bool.not_eq_false', Bool.and_eq_true, Bool.or_eq_true, Bool.and_eq_false_iff, Bool.or_eq_false_iff, Bool.not_eq_true, Bool.not_eq_false, ite_eq_left_iff] at c1
        refine AWp.skip ?_
        refine blockQ_n ?_
        refine thenQ_n ?_
        refine W.reg [0, 1] rfl ?_
        refine S.sil 20 rfl rfl (fun _ hF => .add (lk 10 rfl rfl) cI) ?_
        refine S.sil 13 rfl rfl (fun _ hF => .move (lk 0 rfl rfl)) ?_
        refine S.nil ?_
        refine thenQ_n ?_
        refine ⟨⟨i + 1, by omega, fun j hj => by rcases Nat.lt_succ_iff_lt_or_eq.1 hj with h | h; exact hi2 j h; subst h; exact c1⟩, by simp; omega, ?_⟩
        exact Wk.to 1 (by decide) rfl (.eq (lk 9 rfl rfl) rfl (.eq (lk 10 rfl rfl) rfl (.eq (lk 11 rfl rfl) rfl (.eq (lk 0 rfl rfl) (by rw [wrap_id (by omega) (by omega)]; rfl) .nil)))) (by first | rfl | simp [envLt, V.lt]) (by first | rfl | simp [objsLt, AObj.lt, V.lt, -List.map_set])
    · try simp only [decide_eq_true_eq, decide_eq_false_iff_not, Bool.not_eq_true', Bool.not_eq_false', Bool.and_eq_true, Bool.or_eq_true, Bool.and_eq_false_iff, Bool.or_eq_false_iff, Bool.not_eq_true, Bool.not_eq_false, ite_eq_left_iff] at c0
      refine AWp.exit ?_
      refine thenQ_x ?_
      refine thenQ_x ?_
      refine blockQ_x ?_
      refine thenQ_n ?_
      refine AWp.seq ?_
      refine W.reg [0, 1, 2] rfl ?_
      refine S.sil 21 rfl rfl (fun _ hF => .move (lk 1 rfl rfl)) ?_
      refine S.sil 4 rfl rfl (fun _ hF => .assign (lk 0 rfl rfl)) ?_
      refine S.sil 5 rfl rfl (fun _ hF => .assign cI) ?_
      refine S.nil ?_
      refine thenQ_n ?_
      refine AWp.ret ?_
      refine endN rfl (.cons (.tmp (lk 1 rfl rfl) rfl) (.cons (.tmp (lk 0 rfl rfl) rfl) .nil)) rfl (by first | rfl | simp [V.ltL, checkedV]) ?_
      exact (checkedV_yes (fun j hj => hi2 j (by simp at hj; omega))).symm

theorem Add_ok (a b : Int) : PureC Pg 20 [.int .i64 a, .int .i64 b] (.tup [.int .i64 (addN a b), .int .i64 (addE a b)]) := by
  refine PureC.of (CallSpec.of_body 15 0 Try.func20 rfl rfl rfl (by simp) ?_) (by simp []) (by simp [])
  refine AWp.seq ?_
  refine W.reg [0, 1] rfl ?_
  refine S.sil 4 rfl rfl (fun _ hF => .assign cI) ?_
  refine S.sil 5 rfl rfl (fun _ hF => .assign cI) ?_
  refine S.nil ?_
  refine thenQ_n ?_
  refine AWp.seq ?_
  refine W.reg [0, 1, 2, 3, 4, 5, 6, 7, 8, 9, 10] rfl ?_
  refine S.sil 6 rfl rfl (fun _ hF => .move (lk 2 rfl rfl)) ?_
  refine S.sil 7 rfl rfl (fun _ hF => .move (lk 4 rfl rfl)) ?_
  refine S.sil 8 rfl rfl (fun _ hF => .add (lk 1 rfl rfl) (lk 0 rfl rfl)) ?_
  refine S.sil 9 rfl rfl (fun _ hF => .move (lk 5 rfl rfl)) ?_
  refine S.sil 10 rfl rfl (fun _ hF => .move (lk 7 rfl rfl)) ?_
  refine S.sil 11 rfl rfl (fun _ hF => .buildSliceL sli42 zv3 (by first | rfl | simp) rfl (by decide) (.cons (lk 1 rfl rfl) rfl (by first | rfl | simp) (.cons (lk 0 rfl rfl) rfl (by first | rfl | simp) .nil))) ?_
  refine S.sil 12 rfl rfl (fun _ hF => .callQ ent22 cF (.c (lk 3 rfl rfl) (by first | exact V.sub.refl _ | exact V.sub.forget _ _ _ | exact V.sub.nils_no _ | exact V.sub.nils _) (.c (lk 0 rfl rfl) (by first | exact V.sub.refl _ | exact V.sub.forget _ _ _ | exact V.sub.nils_no _ | exact V.sub.nils _) .nil)) (checked_ok _ [a, b] (by simp))) ?_
  refine S.sil 13 rfl rfl (fun _ hF => .extract (lk 0 rfl rfl) rfl) ?_
  refine S.sil 14 rfl rfl (fun _ hF => .extract (lk 1 rfl rfl) rfl) ?_
  refine S.sil 4 rfl rfl (fun _ hF => .assign (lk 1 rfl rfl)) ?_
  refine S.sil 5 rfl rfl (fun _ hF => .assign (lk 1 rfl rfl)) ?_
  refine S.nil ?_
  refine thenQ_n ?_
  refine AWp.prune (.eq (lk 0 rfl rfl) rfl (.eq (lk 1 rfl rfl) rfl .nil)) ?_
  refine AWp.ret ?_
  refine endN rfl (.cons (.tmp (lk 1 rfl rfl) rfl) (.cons (.tmp (lk 0 rfl rfl) rfl) .nil)) rfl (by first | rfl | simp [V.ltL, ]) ?_
  rw [chkN_add, chkE_add]

theorem lockis_ok (k : Int) : PureC Pg 18 [.int .i64 k] (.bool (isR k)) := by
  refine PureC.of (CallSpec.of_body 9 0 Try.func18 rfl rfl rfl (by simp) ?_) (by simp []) (by simp [])
  refine AWp.seq ?_
  refine W.reg [0] rfl ?_
  refine S.sil 2 rfl rfl (fun _ hF => .assign cB) ?_
  refine S.nil ?_
  refine thenQ_n ?_
  refine AWp.seq ?_
  refine W.reg [0, 1, 2, 3, 4, 5, 6] rfl ?_
  refine S.sil 3 rfl rfl (fun _ hF => .move (lk 1 rfl rfl)) ?_
  refine S.sil 4 rfl rfl (fun _ hF => .geq (lk 0 rfl rfl) cI) ?_
  refine S.sil 5 rfl rfl (fun _ hF => .move (lk 0 rfl rfl)) ?_
  refine S.gsil 6 2 5 true rfl rfl rfl (lk 0 rfl rfl) (fun hB _ hF => .move (lk 4 rfl rfl)) ?_
  refine S.gsil 7 2 5 true rfl rfl rfl (lk 1 rfl rfl) (fun hB _ hF => .lss (ifT hB (lk 0 rfl rfl)) cI) ?_
  refine S.sil 8 rfl rfl (fun _ hF => .pickAnd (lk 2 rfl rfl) (fun h => ifT h (lk 0 rfl rfl)) cB) ?_
  refine S.sil 2 rfl rfl (fun _ hF => .assign (lk 0 rfl rfl)) ?_
  refine S.nil ?_
  refine thenQ_n ?_
  refine AWp.ret ?_
  refine end1 rfl (lk 0 rfl rfl) rfl (by first | rfl | simp []) ?_
  rfl

theorem Compare_ok (a b : Lock) : PureC Pg 9 [encLock a, encLock b] (.int .i64 (cmpLock a b)) := by
  refine PureC.of (CallSpec.of_body 42 0 Try.func9 rfl rfl rfl (by simp) ?_) (by simp []) (by simp [])
  refine AWp.seq ?_
  refine W.reg [0, 1, 2] rfl ?_
  refine S.new 2 rfl rfl (.nf (.box (lk 0 rfl rfl) rfl) (by (try simp only [List.set_cons_zero, List.set_cons_succ, List.cons_append, List.nil_append, List.append_nil, List.length_cons, List.length_nil, List.getD_cons_zero, List.getD_cons_succ, Nat.reduceAdd, Nat.reduceMul, Nat.zero_add, V.setAt_nil, V.setAt_st, V.setAt_arr, map_set']) <;> exact rfl) (by (try simp only [List.set_cons_zero, List.set_cons_succ, List.cons_append, List.nil_append, List.append_nil, List.length_cons, List.length_nil, List.getD_cons_zero, List.getD_cons_succ, Nat.reduceAdd, Nat.reduceMul, Nat.zero_add, V.setAt_nil, V.setAt_st, V.setAt_arr, map_set']) <;> exact rfl)) (by first | exact trivial | exact rfl | exact ⟨rfl, rfl⟩) ?_
  refine S.new 3 rfl rfl (.nf (.box (lk 2 rfl rfl) rfl) (by (try simp only [List.set_cons_zero, List.set_cons_succ, List.cons_append, List.nil_append, List.append_nil, List.length_cons, List.length_nil, List.getD_cons_zero, List.getD_cons_succ, Nat.reduceAdd, Nat.reduceMul, Nat.zero_add, V.setAt_nil, V.setAt_st, V.setAt_arr, map_set']) <;> exact rfl) (by (try simp only [List.set_cons_zero, List.set_cons_succ, List.cons_append, List.nil_append, List.append_nil, List.length_cons, List.length_nil, List.getD_cons_zero, List.getD_cons_succ, Nat.reduceAdd, Nat.reduceMul, Nat.zero_add, V.setAt_nil, V.setAt_st, V.setAt_arr, map_set']) <;> exact rfl)) (by first | exact trivial | exact rfl | exact ⟨rfl, rfl⟩) ?_
  refine S.sil 4 rfl rfl (fun _ hF => .assign cI) ?_
  refine S.nil ?_
  refine thenQ_n ?_
  refine AWp.seq ?_
  refine AWp.seq ?_
  refine W.reg [0, 1, 2, 3, 4, 5, 6, 7, 8, 9, 10, 11, 12, 13, 14, 15, 16, 17, 18, 19, 20, 21] rfl ?_
  first | refine S.sil 7 rfl rfl (fun _ hF => .nv (.fieldAddr lay23 rfl rfl (lk 2 rfl rfl)) (by (try simp only [List.set_cons_zero, List.set_cons_succ, List.cons_append, List.nil_append, List.append_nil, List.length_cons, List.length_nil, List.getD_cons_zero, List.getD_cons_succ, Nat.reduceAdd, Nat.reduceMul, Nat.zero_add, V.setAt_nil, V.setAt_st, V.setAt_arr, map_set']) <;> exact rfl)) ?_ | refine S.sil 7 rfl rfl (fun _ hF => .fieldAddrC lay23 rfl rfl (lk 2 rfl rfl) rfl (by first | rfl | simp)) ?_
  first | refine S.qui 8 rfl rfl (fun _ => .load sz3 ag3 (lk 0 rfl rfl) (by first | rfl | simp) rfl (by first | rfl | simp [V.offOf]) (by first | rfl | (simp; done) | (simp; omega)) (by first | rfl | simp)) ?_ | refine S.sil 8 rfl rfl (fun _ hF => .loadC sz3 ag3 (lk 0 rfl rfl) (by first | rfl | simp) (by first | rfl | simp)) ?_
  first | refine S.sil 9 rfl rfl (fun _ hF => .nv (.fieldAddr lay23 rfl rfl (lk 3 rfl rfl)) (by (try simp only [List.set_cons_zero, List.set_cons_succ, List.cons_append, List.nil_append, List.append_nil, List.length_cons, List.length_nil, List.getD_cons_zero, List.getD_cons_succ, Nat.reduceAdd, Nat.reduceMul, Nat.zero_add, V.setAt_nil, V.setAt_st, V.setAt_arr, map_set']) <;> exact rfl)) ?_ | refine S.sil 9 rfl rfl (fun _ hF => .fieldAddrC lay23 rfl rfl (lk 3 rfl rfl) rfl (by first | rfl | simp)) ?_
  first | refine S.qui 10 rfl rfl (fun _ => .load sz3 ag3 (lk 0 rfl rfl) (by first | rfl | simp) rfl (by first | rfl | simp [V.offOf]) (by first | rfl | (simp; done) | (simp; omega)) (by first | rfl | simp)) ?_ | refine S.sil 10 rfl rfl (fun _ hF => .loadC sz3 ag3 (lk 0 rfl rfl) (by first | rfl | simp) (by first | rfl | simp)) ?_
  refine S.sil 11 rfl rfl (fun _ hF => .buildArrL arr34 zv34 (.cons (lk 2 rfl rfl) rfl (by first | rfl | simp) (by first | rfl | simp) (.cons (lk 0 rfl rfl) rfl (by first | rfl | simp) (by first | rfl | simp) .nil)) rfl rfl) ?_
  first | refine S.sil 12 rfl rfl (fun _ hF => .nv (.fieldAddr lay23 rfl rfl (lk 7 rfl rfl)) (by (try simp only [List.set_cons_zero, List.set_cons_succ, List.cons_append, List.nil_append, List.append_nil, List.length_cons, List.length_nil, List.getD_cons_zero, List.getD_cons_succ, Nat.reduceAdd, Nat.reduceMul, Nat.zero_add, V.setAt_nil, V.setAt_st, V.setAt_arr, map_set']) <;> exact rfl)) ?_ | refine S.sil 12 rfl rfl (fun _ hF => .fieldAddrC lay23 rfl rfl (lk 7 rfl rfl) rfl (by first | rfl | simp)) ?_
  first | refine S.qui 13 rfl rfl (fun _ => .load sz3 ag3 (lk 0 rfl rfl) (by first | rfl | simp) rfl (by first | rfl | simp [V.offOf]) (by first | rfl | (simp; done) | (simp; omega)) (by first | rfl | simp)) ?_ | refine S.sil 13 rfl rfl (fun _ hF => .loadC sz3 ag3 (lk 0 rfl rfl) (by first | rfl | simp) (by first | rfl | simp)) ?_
  first | refine S.sil 14 rfl rfl (fun _ hF => .nv (.fieldAddr lay23 rfl rfl (lk 8 rfl rfl)) (by (try simp only [List.set_cons_zero, List.set_cons_succ, List.cons_append, List.nil_append, List.append_nil, List.length_cons, List.length_nil, List.getD_cons_zero, List.getD_cons_succ, Nat.reduceAdd, Nat.reduceMul, Nat.zero_add, V.setAt_nil, V.setAt_st, V.setAt_arr, map_set']) <;> exact rfl)) ?_ | refine S.sil 14 rfl rfl (fun _ hF => .fieldAddrC lay23 rfl rfl (lk 8 rfl rfl) rfl (by first | rfl | simp)) ?_
  first | refine S.qui 15 rfl rfl (fun _ => .load sz3 ag3 (lk 0 rfl rfl) (by first | rfl | simp) rfl (by first | rfl | simp [V.offOf]) (by first | rfl | (simp; done) | (simp; omega)) (by first | rfl | simp)) ?_ | refine S.sil 15 rfl rfl (fun _ hF => .loadC sz3 ag3 (lk 0 rfl rfl) (by first | rfl | simp) (by first | rfl | simp)) ?_
  refine S.sil 16 rfl rfl (fun _ hF => .buildArrL arr34 zv34 (.cons (lk 2 rfl rfl) rfl (by first | rfl | simp) (by first | rfl | simp) (.cons (lk 0 rfl rfl) rfl (by first | rfl | simp) (by first | rfl | simp) .nil)) rfl rfl) ?_
  first | refine S.sil 17 rfl rfl (fun _ hF => .nv (.fieldAddr lay23 rfl rfl (lk 12 rfl rfl)) (by (try simp only [List.set_cons_zero, List.set_cons_succ, List.cons_append, List.nil_append, List.append_nil, List.length_cons, List.length_nil, List.getD_cons_zero, List.getD_cons_succ, Nat.reduceAdd, Nat.reduceMul, Nat.zero_add, V.setAt_nil, V.setAt_st, V.setAt_arr, map_set']) <;> exact rfl)) ?_ | refine S.sil 17 rfl rfl (fun _ hF => .fieldAddrC lay23 rfl rfl (lk 12 rfl rfl) rfl (by first | rfl | simp)) ?_
  first | refine S.qui 18 rfl rfl (fun _ => .load sz3 ag3 (lk 0 rfl rfl) (by first | rfl | simp) rfl (by first | rfl | simp [V.offOf]) (by first | rfl | (simp; done) | (simp; omega)) (by first | rfl | simp)) ?_ | refine S.sil 18 rfl rfl (fun _ hF => .loadC sz3 ag3 (lk 0 rfl rfl) (by first | rfl | simp) (by first | rfl | simp)) ?_
  first | refine S.sil 19 rfl rfl (fun _ hF => .nv (.fieldAddr lay23 rfl rfl (lk 13 rfl rfl)) (by (try simp only [List.set_cons_zero, List.set_cons_succ, List.cons_append, List.nil_append, List.append_nil, List.length_cons, List.length_nil, List.getD_cons_zero, List.getD_cons_succ, Nat.reduceAdd, Nat.reduceMul, Nat.zero_add, V.setAt_nil, V.setAt_st, V.setAt_arr, map_set']) <;> exact rfl)) ?_ | refine S.sil 19 rfl rfl (fun _ hF => .fieldAddrC lay23 rfl rfl (lk 13 rfl rfl) rfl (by first | rfl | simp)) ?_
  first | refine S.qui 20 rfl rfl (fun _ => .load sz3 ag3 (lk 0 rfl rfl) (by first | rfl | simp) rfl (by first | rfl | simp [V.offOf]) (by first | rfl | (simp; done) | (simp; omega)) (by first | rfl | simp)) ?_ | refine S.sil 20 rfl rfl (fun _ hF => .loadC sz3 ag3 (lk 0 rfl rfl) (by first | rfl | simp) (by first | rfl | simp)) ?_
  refine S.sil 21 rfl rfl (fun _ hF => .buildArrL arr34 zv34 (.cons (lk 2 rfl rfl) rfl (by first | rfl | simp) (by first | rfl | simp) (.cons (lk 0 rfl rfl) rfl (by first | rfl | simp) (by first | rfl | simp) .nil)) rfl rfl) ?_
  first | refine S.sil 22 rfl rfl (fun _ hF => .nv (.fieldAddr lay23 rfl rfl (lk 17 rfl rfl)) (by (try simp only [List.set_cons_zero, List.set_cons_succ, List.cons_append, List.nil_append, List.append_nil, List.length_cons, List.length_nil, List.getD_cons_zero, List.getD_cons_succ, Nat.reduceAdd, Nat.reduceMul, Nat.zero_add, V.setAt_nil, V.setAt_st, V.setAt_arr, map_set']) <;> exact rfl)) ?_ | refine S.sil 22 rfl rfl (fun _ hF => .fieldAddrC lay23 rfl rfl (lk 17 rfl rfl) rfl (by first | rfl | simp)) ?_
  first | refine S.qui 23 rfl rfl (fun _ => .load sz3 ag3 (lk 0 rfl rfl) (by first | rfl | simp) rfl (by first | rfl | simp [V.offOf]) (by first | rfl | (simp; done) | (simp; omega)) (by first | rfl | simp)) ?_ | refine S.sil 23 rfl rfl (fun _ hF => .loadC sz3 ag3 (lk 0 rfl rfl) (by first | rfl | simp) (by first | rfl | simp)) ?_
  first | refine S.sil 24 rfl rfl (fun _ hF => .nv (.fieldAddr lay23 rfl rfl (lk 18 rfl rfl)) (by (try simp only [List.set_cons_zero, List.set_cons_succ, List.cons_append, List.nil_append, List.append_nil, List.length_cons, List.length_nil, List.getD_cons_zero, List.getD_cons_succ, Nat.reduceAdd, Nat.reduceMul, Nat.zero_add, V.setAt_nil, V.setAt_st, V.setAt_arr, map_set']) <;> exact rfl)) ?_ | refine S.sil 24 rfl rfl (fun _ hF => .fieldAddrC lay23 rfl rfl (lk 18 rfl rfl) rfl (by first | rfl | simp)) ?_
  first | refine S.qui 25 rfl rfl (fun _ => .load sz3 ag3 (lk 0 rfl rfl) (by first | rfl | simp) rfl (by first | rfl | simp [V.offOf]) (by first | rfl | (simp; done) | (simp; omega)) (by first | rfl | simp)) ?_ | refine S.sil 25 rfl rfl (fun _ hF => .loadC sz3 ag3 (lk 0 rfl rfl) (by first | rfl | simp) (by first | rfl | simp)) ?_
  refine S.sil 26 rfl rfl (fun _ hF => .buildArrL arr34 zv34 (.cons (lk 2 rfl rfl) rfl (by first | rfl | simp) (by first | rfl | simp) (.cons (lk 0 rfl rfl) rfl (by first | rfl | simp) (by first | rfl | simp) .nil)) rfl rfl) ?_
  refine S.sil 27 rfl rfl (fun _ hF => .buildArrL arr46 zv46 (.cons (lk 15 rfl rfl) rfl (by first | rfl | simp) (by first | rfl | simp) (.cons (lk 10 rfl rfl) rfl (by first | rfl | simp) (by first | rfl | simp) (.cons (lk 5 rfl rfl) rfl (by first | rfl | simp) (by first | rfl | simp) (.cons (lk 0 rfl rfl) rfl (by first | rfl | simp) (by first | rfl | simp) .nil)))) rfl rfl) ?_
  refine S.sil 28 rfl rfl (fun _ hF => .move cI) ?_
  refine S.nil ?_
  refine thenQ_n ?_
  refine AWp.prune (.eq (lk 0 rfl rfl) rfl (.eq (lk 1 rfl rfl) rfl (.eq (lk 22 rfl rfl) rfl .nil))) ?_
  refine AWp.block ?_
  refine AWp.loopS (ι := {i : Nat // i ≤ 4 ∧ ∀ j, j < i → ((lockPairs a b).getD j (0, 0)).1 = ((lockPairs a b).getD j (0, 0)).2}) (fun ⟨i, _⟩ => ⟨[(27, .arr 2 ((lockPairs a b).map fun p => .arr 1 [.int .i64 p.1, .int .i64 p.2])), (28, .int .i64 (i : Int))], []⟩) (fun ⟨i, _⟩ => 4 - i) ⟨0, by omega, by intro j hj; omega⟩ ?_ ?_
  · exact Wk.to 0 (by decide) rfl (.eq (lk 1 rfl rfl) rfl (.eq (lk 0 rfl rfl) rfl .nil)) (by simp [lockPairs]) (by first | rfl | simp [objsLt, AObj.lt, V.lt, -List.map_set])
  · rintro ⟨i, hi1, hi2⟩
    refine AWp.seq ?_
    refine W.reg [0] rfl ?_
    refine S.sil 29 rfl rfl (fun _ hF => .lss (lk 1 rfl rfl) cI) ?_
    refine S.nil ?_
    refine thenQ_n ?_
    refine AWp.seq ?_
    refine AWp.cond (lk 0 rfl rfl) (fun c0 => ?_) (fun c0 => ?_)
    · try simp only [decide_eq_true_eq, decide_eq_false_iff_not, Bool.not_eq_true', Bool.not_eq_false', Bool.and_eq_true, Bool.or_eq_true, Bool.and_eq_false_iff, Bool.or_eq_false_iff, Bool.not_eq_true, Bool.not_eq_false, ite_eq_left_iff] at c0
      have hu : ((lockPairs a b).map fun p => V.arr 1 [.int .i64 p.1, .int .i64 p.2])[((i : Nat) : Int).toNat]? = some (.arr 1 [.int .i64 ((lockPairs a b).getD i (0, 0)).1, .int .i64 ((lockPairs a b).getD i (0, 0)).2]) := map_get (fun p : Int × Int => V.arr 1 [.int .i64 p.1, .int .i64 p.2]) (0, 0) (by simp [lockPairs]; omega)
      refine AWp.skip ?_
      refine thenQ_n ?_
      refine AWp.seq ?_
      refine AWp.block ?_
      refine AWp.seq ?_
      refine W.reg [0, 1, 2] rfl ?_
      refine S.sil 30 rfl rfl (fun _ hF => .index arr46 (lk 1 rfl rfl) (lk 2 rfl rfl) (by omega) (by omega) hu (by first | rfl | simp)) ?_
      refine S.new 6 rfl rfl (.nf (.alloc zv34) (by (try simp only [List.set_cons_zero, List.set_cons_succ, List.cons_append, List.nil_append, List.append_nil, List.length_cons, List.length_nil, List.getD_cons_zero, List.getD_cons_succ, Nat.reduceAdd, Nat.reduceMul, Nat.zero_add, V.setAt_nil, V.setAt_st, V.setAt_arr, map_set']) <;> exact rfl) (by (try simp only [List.set_cons_zero, List.set_cons_succ, List.cons_append, List.nil_append, List.append_nil, List.length_cons, List.length_nil, List.getD_cons_zero, List.getD_cons_succ, Nat.reduceAdd, Nat.reduceMul, Nat.zero_add, V.setAt_nil, V.setAt_st, V.setAt_arr, map_set']) <;> exact rfl)) (by first | exact trivial | exact rfl | exact ⟨rfl, rfl⟩) ?_
      refine S.effN rfl rfl (.nf (.store sz34 (lk 0 rfl rfl) (lk 1 rfl rfl) rfl (by first | rfl | simp) rfl (by first | rfl | simp [V.offOf]) (by first | rfl | simp) (by first | rfl | simp)) (by (try simp only [List.set_cons_zero, List.set_cons_succ, List.cons_append, List.nil_append, List.append_nil, List.length_cons, List.length_nil, List.getD_cons_zero, List.getD_cons_succ, Nat.reduceAdd, Nat.reduceMul, Nat.zero_add, V.setAt_nil, V.setAt_st, V.setAt_arr, map_set']) <;> exact rfl) (by (try simp only [List.set_cons_zero, List.set_cons_succ, List.cons_append, List.nil_append, List.append_nil, List.length_cons, List.length_nil, List.getD_cons_zero, List.getD_cons_succ, Nat.reduceAdd, Nat.reduceMul, Nat.zero_add, V.setAt_nil, V.setAt_st, V.setAt_arr, map_set']) <;> exact rfl)) (by first | exact trivial | exact rfl | exact ⟨rfl, rfl⟩) ?_
      refine S.nil ?_
      refine thenQ_n ?_
      refine AWp.seq ?_
      refine W.reg [0, 1, 2, 3, 4] rfl ?_
      first | refine S.sil 31 rfl rfl (fun _ hF => .nv (.indexAddr arr34 (lk 0 rfl rfl) cI (by first | decide | omega) (by first | decide | omega)) (by (try simp only [List.set_cons_zero, List.set_cons_succ, List.cons_append, List.nil_append, List.append_nil, List.length_cons, List.length_nil, List.getD_cons_zero, List.getD_cons_succ, Nat.reduceAdd, Nat.reduceMul, Nat.zero_add, V.setAt_nil, V.setAt_st, V.setAt_arr, map_set']) <;> exact rfl)) ?_ | refine S.sil 31 rfl rfl (fun _ hF => .indexAddrC arr34 (lk 0 rfl rfl) cI (by first | decide | omega) (by first | decide | omega) (by first | rfl | assumption | (simp; done))) ?_
      first | refine S.qui 32 rfl rfl (fun _ => .load sz3 ag3 (lk 0 rfl rfl) (by first | rfl | simp) rfl (by first | rfl | simp [V.offOf]) (by first | rfl | (simp; done) | (simp; omega)) (by first | rfl | simp)) ?_ | refine S.sil 32 rfl rfl (fun _ hF => .loadC sz3 ag3 (lk 0 rfl rfl) (by first | rfl | simp) (by first | rfl | simp)) ?_
      first | refine S.sil 33 rfl rfl (fun _ hF => .nv (.indexAddr arr34 (lk 2 rfl rfl) cI (by first | decide | omega) (by first | decide | omega)) (by (try simp only [List.set_cons_zero, List.set_cons_succ, List.cons_append, List.nil_append, List.append_nil, List.length_cons, List.length_nil, List.getD_cons_zero, List.getD_cons_succ, Nat.reduceAdd, Nat.reduceMul, Nat.zero_add, V.setAt_nil, V.setAt_st, V.setAt_arr, map_set']) <;> exact rfl)) ?_ | refine S.sil 33 rfl rfl (fun _ hF => .indexAddrC arr34 (lk 2 rfl rfl) cI (by first | decide | omega) (by first | decide | omega) (by first | rfl | assumption | (simp; done))) ?_
      first | refine S.qui 34 rfl rfl (fun _ => .load sz3 ag3 (lk 0 rfl rfl) (by first | rfl | simp) rfl (by first | rfl | simp [V.offOf]) (by first | rfl | (simp; done) | (simp; omega)) (by first | rfl | simp)) ?_ | refine S.sil 34 rfl rfl (fun _ hF => .loadC sz3 ag3 (lk 0 rfl rfl) (by first | rfl | simp) (by first | rfl | simp)) ?_
      refine S.sil 35 rfl rfl (fun _ hF => .neq (lk 2 rfl rfl) (lk 0 rfl rfl)) ?_
      refine S.nil ?_
      refine thenQ_n ?_
      refine AWp.cond (lk 0 rfl rfl) (fun c1 => ?_) (fun c1 => ?_)
      · try simp only [decide_eq_true_eq, decide_eq_false_iff_not, Bool.not_eq_true', Bool.not_eq_false', Bool.and_eq_true, Bool.or_eq_true, Bool.and_eq_false_iff, Bool.or_eq_false_iff, Bool.not_eq_true, Bool.not_eq_false, ite_eq_left_iff] at c1
        refine AWp.seq ?_
        refine AWp.seq ?_
        refine W.reg [0, 1, 2, 3, 4] rfl ?_
        first | refine S.sil 36 rfl rfl (fun _ hF => .nv (.indexAddr arr34 (lk 5 rfl rfl) cI (by first | decide | omega) (by first | decide | omega)) (by (try simp only [List.set_cons_zero, List.set_cons_succ, List.cons_append, List.nil_append, List.append_nil, List.length_cons, List.length_nil, List.getD_cons_zero, List.getD_cons_succ, Nat.reduceAdd, Nat.reduceMul, Nat.zero_add, V.setAt_nil, V.setAt_st, V.setAt_arr, map_set']) <;> exact rfl)) ?_ | refine S.sil 36 rfl rfl (fun _ hF => .indexAddrC arr34 (lk 5 rfl rfl) cI (by first | decide | omega) (by first | decide | omega) (by first | rfl | assumption | (simp; done))) ?_
        first | refine S.qui 37 rfl rfl (fun _ => .load sz3 ag3 (lk 0 rfl rfl) (by first | rfl | simp) rfl (by first | rfl | simp [V.offOf]) (by first | rfl | (simp; done) | (simp; omega)) (by first | rfl | simp)) ?_ | refine S.sil 37 rfl rfl (fun _ hF => .loadC sz3 ag3 (lk 0 rfl rfl) (by first | rfl | simp) (by first | rfl | simp)) ?_
        first | refine S.sil 38 rfl rfl (fun _ hF => .nv (.indexAddr arr34 (lk 7 rfl rfl) cI (by first | decide | omega) (by first | decide | omega)) (by (try simp only [List.set_cons_zero, List.set_cons_succ, List.cons_append, List.nil_append, List.append_nil, List.length_cons, List.length_nil, List.getD_cons_zero, List.getD_cons_succ, Nat.reduceAdd, Nat.reduceMul, Nat.zero_add, V.setAt_nil, V.setAt_st, V.setAt_arr, map_set']) <;> exact rfl)) ?_ | refine S.sil 38 rfl rfl (fun _ hF => .indexAddrC arr34 (lk 7 rfl rfl) cI (by first | decide | omega) (by first | decide | omega) (by first | rfl | assumption | (simp; done))) ?_
        first | refine S.qui 39 rfl rfl (fun _ => .load sz3 ag3 (lk 0 rfl rfl) (by first | rfl | simp) rfl (by first | rfl | simp [V.offOf]) (by first | rfl | (simp; done) | (simp; omega)) (by first | rfl | simp)) ?_ | refine S.sil 39 rfl rfl (fun _ hF => .loadC sz3 ag3 (lk 0 rfl rfl) (by first | rfl | simp) (by first | rfl | simp)) ?_
        refine S.sil 40 rfl rfl (fun _ hF => .gtr (lk 2 rfl rfl) (lk 0 rfl rfl)) ?_
        refine S.nil ?_
        refine thenQ_n ?_
        refine AWp.prune (.eq (lk 0 rfl rfl) rfl (.eq (lk 13 rfl rfl) rfl (.eq (lk 14 rfl rfl) rfl .nil))) ?_
        refine AWp.cond (lk 0 rfl rfl) (fun c2 => ?_) (fun c2 => ?_)
        · try simp only [decide_eq_true_eq, decide_eq_false_iff_not, Bool.not_eq_true', Bool.not_eq_false', Bool.and_eq_true, Bool.or_eq_true, Bool.and_eq_false_iff, Bool.or_eq_false_iff, Bool.not_eq_true, Bool.not_eq_false, ite_eq_left_iff] at c2
          refine AWp.seq ?_
          refine W.reg [0] rfl ?_
          refine S.sil 4 rfl rfl (fun _ hF => .assign cI) ?_
          refine S.nil ?_
          refine thenQ_n ?_
          refine AWp.ret ?_
          refine thenQ_r ?_
          refine blockQ_r ?_
          refine thenQ_r ?_
          refine thenQ_r ?_
          refine blockQ_r ?_
          refine thenQ_r ?_
          refine end1 rfl (lk 0 rfl rfl) rfl (by first | rfl | simp []) ?_
          rw [cmpLock, cmpP_at (i := i) (by simp [lockPairs]; omega) hi2 c1, if_pos c2]
        · try simp only [decide_eq_true_eq, decide_eq_false_iff_not, Bool.not_eq_true', Bool.not_eq_false', Bool.and_eq_true, Bool.or_eq_true, Bool.and_eq_false_iff, Bool.or_eq_false_iff, Bool.not_eq_true, Bool.not_eq_false, ite_eq_left_iff] at c2
          refine AWp.skip ?_
          refine thenQ_n ?_
          refine AWp.seq ?_
          refine W.reg [0] rfl ?_
          refine S.sil 4 rfl rfl (fun _ hF => .assign cI) ?_
          refine S.nil ?_
          refine thenQ_n ?_
          refine AWp.ret ?_
          refine blockQ_r ?_
          refine thenQ_r ?_
          refine thenQ_r ?_
          refine blockQ_r ?_
          refine thenQ_r ?_
          refine end1 rfl (lk 0 rfl rfl) rfl (by first | rfl | simp []) ?_
          rw [cmpLock, cmpP_at (i := i) (by simp [lockPairs]; omega) hi2 c1, if_neg (by omega)]
      · try simp only [decide_eq_true_eq, decide_eq_false_iff_not, Bool.not_eq_true', Bool.not_eq_false', Bool.and_eq_true, Bool.or_eq_true, Bool.and_eq_false_iff, Bool.or_eq_false_iff, Bool.not_eq_true, Bool.not_eq_false, ite_eq_left_iff] at c1
        refine AWp.skip ?_
        refine blockQ_n ?_
        refine thenQ_n ?_
        refine W.reg [0, 1] rfl ?_
        refine S.sil 41 rfl rfl (fun _ hF => .add (lk 9 rfl rfl) cI) ?_
        refine S.sil 28 rfl rfl (fun _ hF => .move (lk 0 rfl rfl)) ?_
        refine S.nil ?_
        refine thenQ_n ?_
        refine ⟨⟨i + 1, by omega, fun j hj => by rcases Nat.lt_succ_iff_lt_or_eq.1 hj with h | h; exact hi2 j h; subst h; exact c1⟩, by simp; omega, ?_⟩
        exact Wk.to 0 (by decide) rfl (.eq (lk 10 rfl rfl) rfl (.eq (lk 0 rfl rfl) (by rw [wrap_id (by omega) (by omega)]; rfl) .nil)) (by simp [lockPairs]) (by first | rfl | simp [objsLt, AObj.lt, V.lt, -List.map_set])
    · try simp only [decide_eq_true_eq, decide_eq_false_iff_not, Bool.not_eq_true', Bool.not_eq_false', Bool.and_eq_true, Bool.or_eq_true, Bool.and_eq_false_iff, Bool.or_eq_false_iff, Bool.not_eq_true, Bool.not_eq_false, ite_eq_left_iff] at c0
      refine AWp.exit ?_
      refine thenQ_x ?_
      refine thenQ_x ?_
      refine blockQ_x ?_
      refine thenQ_n ?_
      refine AWp.seq ?_
      refine W.reg [0] rfl ?_
      refine S.sil 4 rfl rfl (fun _ hF => .assign cI) ?_
      refine S.nil ?_
      refine thenQ_n ?_
      refine AWp.ret ?_
      refine end1 rfl (lk 0 rfl rfl) rfl (by first | rfl | simp []) ?_
      rw [cmpLock, cmpP_all (fun j hj => hi2 j (by simp [lockPairs] at hj; omega))]

theorem New_ok (h v : Int) : PureC Pg 14 [.int .i64 h, .int .i64 v] (.tup [encLock (newLock h v).1, .int .i64 (newLock h v).2]) := by
  refine PureC.of (CallSpec.of_body 19 0 Try.func14 rfl rfl rfl (by simp) ?_) (by simp []) (by simp [])
  refine AWp.seq ?_
  refine W.reg [0, 1] rfl ?_
  refine S.new 4 rfl rfl (.nf (.alloc zv23) (by (try simp only [List.set_cons_zero, List.set_cons_succ, List.cons_append, List.nil_append, List.append_nil, List.length_cons, List.length_nil, List.getD_cons_zero, List.getD_cons_succ, Nat.reduceAdd, Nat.reduceMul, Nat.zero_add, V.setAt_nil, V.setAt_st, V.setAt_arr, map_set']) <;> exact rfl) (by (try simp only [List.set_cons_zero, List.set_cons_succ, List.cons_append, List.nil_append, List.append_nil, List.length_cons, List.length_nil, List.getD_cons_zero, List.getD_cons_succ, Nat.reduceAdd, Nat.reduceMul, Nat.zero_add, V.setAt_nil, V.setAt_st, V.setAt_arr, map_set']) <;> exact rfl)) (by first | exact trivial | exact rfl | exact ⟨rfl, rfl⟩) ?_
  refine S.sil 5 rfl rfl (fun _ hF => .assign cI) ?_
  refine S.nil ?_
  refine thenQ_n ?_
  refine AWp.seq ?_
  refine AWp.block ?_
  refine AWp.seq ?_
  refine W.reg [0, 1, 2, 3] rfl ?_
  refine S.sil 7 rfl rfl (fun _ hF => .move (lk 2 rfl rfl)) ?_
  refine S.sil 8 rfl rfl (fun _ hF => .callQ ent18 cF (.c (lk 0 rfl rfl) (by first | exact V.sub.refl _ | exact V.sub.forget _ _ _ | exact V.sub.nils_no _ | exact V.sub.nils _) .nil) (lockis_ok _)) ?_
  refine S.sil 9 rfl rfl (fun _ hF => .not (lk 0 rfl rfl)) ?_
  refine S.sil 6 rfl rfl (fun _ hF => .assign (lk 0 rfl rfl)) ?_
  refine S.nil ?_
  refine thenQ_n ?_
  refine AWp.cond (lk 0 rfl rfl) (fun c0 => ?_) (fun c0 => ?_)
  · try simp only [decide_eq_true_eq, decide_eq_false_iff_not, Bool.not_eq_true', Bool.not_eq_false', Bool.and_eq_true, Bool.or_eq_true, Bool.and_eq_false_iff, Bool.or_eq_false_iff, Bool.not_eq_true, Bool.not_eq_false, ite_eq_left_iff] at c0
    refine AWp.seq ?_
    refine W.reg [0, 1, 2] rfl ?_
    refine S.sil 10 rfl rfl (fun _ hF => .buildStL lay23 zv23 .nil rfl rfl) ?_
    refine S.effN rfl rfl (.nf (.store sz23 (lk 6 rfl rfl) (lk 0 rfl rfl) rfl (by first | rfl | simp) rfl (by first | rfl | simp [V.offOf]) (by first | rfl | simp) (by first | rfl | simp)) (by (try simp only [List.set_cons_zero, List.set_cons_succ, List.cons_append, List.nil_append, List.append_nil, List.length_cons, List.length_nil, List.getD_cons_zero, List.getD_cons_succ, Nat.reduceAdd, Nat.reduceMul, Nat.zero_add, V.setAt_nil, V.setAt_st, V.setAt_arr, map_set']) <;> exact rfl) (by (try simp only [List.set_cons_zero, List.set_cons_succ, List.cons_append, List.nil_append, List.append_nil, List.length_cons, List.length_nil, List.getD_cons_zero, List.getD_cons_succ, Nat.reduceAdd, Nat.reduceMul, Nat.zero_add, V.setAt_nil, V.setAt_st, V.setAt_arr, map_set']) <;> exact rfl)) (by first | exact trivial | exact rfl | exact ⟨rfl, rfl⟩) ?_
    refine S.sil 5 rfl rfl (fun _ hF => .assign cI) ?_
    refine S.nil ?_
    refine thenQ_n ?_
    refine AWp.ret ?_
    refine blockQ_r ?_
    refine thenQ_r ?_
    refine endN rfl (.cons (.cell sz23 ag23 (lk 7 rfl rfl) (by first | rfl | simp) rfl rfl (by first | rfl | simp) (by first | rfl | simp)) (.cons (.tmp (lk 0 rfl rfl) rfl) .nil)) rfl (by first | rfl | simp [V.ltL, ]) ?_
    simp [newLock, *]; rfl
  · try simp only [decide_eq_true_eq, decide_eq_false_iff_not, Bool.not_eq_true', Bool.not_eq_false', Bool.and_eq_true, Bool.or_eq_true, Bool.and_eq_false_iff, Bool.or_eq_false_iff, Bool.not_eq_true, Bool.not_eq_false, ite_eq_left_iff] at c0
    refine AWp.seq ?_
    refine W.reg [0, 1, 2, 3] rfl ?_
    refine S.sil 12 rfl rfl (fun _ hF => .move (lk 7 rfl rfl)) ?_
    refine S.sil 13 rfl rfl (fun _ hF => .callQ ent19 cF (.c (lk 0 rfl rfl) (by first | exact V.sub.refl _ | exact V.sub.forget _ _ _ | exact V.sub.nils_no _ | exact V.sub.nils _) .nil) (Is_ok _)) ?_
    refine S.sil 14 rfl rfl (fun _ hF => .not (lk 0 rfl rfl)) ?_
    refine S.sil 11 rfl rfl (fun _ hF => .assign (lk 0 rfl rfl)) ?_
    refine S.nil ?_
    refine thenQ_n ?_
    refine AWp.cond (lk 0 rfl rfl) (fun c1 => ?_) (fun c1 => ?_)
    · try simp only [decide_eq_true_eq, decide_eq_false_iff_not, Bool.not_eq_true', Bool.not_eq_false', Bool.and_eq_true, Bool.or_eq_true, Bool.and_eq_false_iff, Bool.or_eq_false_iff, Bool.not_eq_true, Bool.not_eq_false, ite_eq_left_iff] at c1
      refine AWp.seq ?_
      refine W.reg [0, 1, 2] rfl ?_
      refine S.sil 15 rfl rfl (fun _ hF => .buildStL lay23 zv23 .nil rfl rfl) ?_
      refine S.effN rfl rfl (.nf (.store sz23 (lk 10 rfl rfl) (lk 0 rfl rfl) rfl (by first | rfl | simp) rfl (by first | rfl | simp [V.offOf]) (by first | rfl | simp) (by first | rfl | simp)) (by (try simp only [List.set_cons_zero, List.set_cons_succ, List.cons_append, List.nil_append, List.append_nil, List.length_cons, List.length_nil, List.getD_cons_zero, List.getD_cons_succ, Nat.reduceAdd, Nat.reduceMul, Nat.zero_add, V.setAt_nil, V.setAt_st, V.setAt_arr, map_set']) <;> exact rfl) (by (try simp only [List.set_cons_zero, List.set_cons_succ, List.cons_append, List.nil_append, List.append_nil, List.length_cons, List.length_nil, List.getD_cons_zero, List.getD_cons_succ, Nat.reduceAdd, Nat.reduceMul, Nat.zero_add, V.setAt_nil, V.setAt_st, V.setAt_arr, map_set']) <;> exact rfl)) (by first | exact trivial | exact rfl | exact ⟨rfl, rfl⟩) ?_
      refine S.sil 5 rfl rfl (fun _ hF => .assign cI) ?_
      refine S.nil ?_
      refine thenQ_n ?_
      refine AWp.prune (.eq (lk 0 rfl rfl) rfl (.eq (lk 11 rfl rfl) rfl (.eq (lk 12 rfl rfl) rfl (.eq (lk 13 rfl rfl) rfl .nil)))) ?_
      refine AWp.ret ?_
      refine blockQ_r ?_
      refine thenQ_r ?_
      refine endN rfl (.cons (.cell sz23 ag23 (lk 1 rfl rfl) (by first | rfl | simp) rfl rfl (by first | rfl | simp) (by first | rfl | simp)) (.cons (.tmp (lk 0 rfl rfl) rfl) .nil)) rfl (by first | rfl | simp [V.ltL, ]) ?_
      simp [newLock, *]; rfl
    · try simp only [decide_eq_true_eq, decide_eq_false_iff_not, Bool.not_eq_true', Bool.not_eq_false', Bool.and_eq_true, Bool.or_eq_true, Bool.and_eq_false_iff, Bool.or_eq_false_iff, Bool.not_eq_true, Bool.not_eq_false, ite_eq_left_iff] at c1
      refine AWp.skip ?_
      refine blockQ_n ?_
      refine thenQ_n ?_
      refine AWp.seq ?_
      refine W.reg [0, 1, 2, 3, 4] rfl ?_
      refine S.sil 16 rfl rfl (fun _ hF => .move (lk 10 rfl rfl)) ?_
      refine S.sil 17 rfl rfl (fun _ hF => .move (lk 12 rfl rfl)) ?_
      refine S.sil 18 rfl rfl (fun _ hF => .buildStL lay23 zv23 (.cons (lk 1 rfl rfl) rfl (by first | rfl | simp) (by first | rfl | simp) (.cons (lk 0 rfl rfl) rfl (by first | rfl | simp) (by first | rfl | simp) .nil)) rfl rfl) ?_
      refine S.effN rfl rfl (.nf (.store sz23 (lk 12 rfl rfl) (lk 0 rfl rfl) rfl (by first | rfl | simp) rfl (by first | rfl | simp [V.offOf]) (by first | rfl | simp) (by first | rfl | simp)) (by (try simp only [List.set_cons_zero, List.set_cons_succ, List.cons_append, List.nil_append, List.append_nil, List.length_cons, List.length_nil, List.getD_cons_zero, List.getD_cons_succ, Nat.reduceAdd, Nat.reduceMul, Nat.zero_add, V.setAt_nil, V.setAt_st, V.setAt_arr, map_set']) <;> exact rfl) (by (try simp only [List.set_cons_zero, List.set_cons_succ, List.cons_append, List.nil_append, List.append_nil, List.length_cons, List.length_nil, List.getD_cons_zero, List.getD_cons_succ, Nat.reduceAdd, Nat.reduceMul, Nat.zero_add, V.setAt_nil, V.setAt_st, V.setAt_arr, map_set']) <;> exact rfl)) (by first | exact trivial | exact rfl | exact ⟨rfl, rfl⟩) ?_
      refine S.sil 5 rfl rfl (fun _ hF => .assign cI) ?_
      refine S.nil ?_
      refine thenQ_n ?_
      refine AWp.prune (.eq (lk 0 rfl rfl) rfl (.eq (lk 13 rfl rfl) rfl .nil)) ?_
      refine AWp.ret ?_
      refine endN rfl (.cons (.cell sz23 ag23 (lk 1 rfl rfl) (by first | rfl | simp) rfl rfl (by first | rfl | simp) (by first | rfl | simp)) (.cons (.tmp (lk 0 rfl rfl) rfl) .nil)) rfl (by first | rfl | simp [V.ltL, ]) ?_
      simp [newLock, *]; rfl

theorem Write_ok (l : Lock) (k v : Int) : PureC Pg 15 [encLock l, .int .i64 k, .int .i64 v] (.tup [encLock (writeLock l k v).1, .int .i64 (writeLock l k v).2]) := by
  refine PureC.of (CallSpec.of_body 34 0 Try.func15 rfl rfl rfl (by simp) ?_) (by simp []) (by simp [])
  refine AWp.seq ?_
  refine W.reg [0, 1, 2] rfl ?_
  refine S.new 3 rfl rfl (.nf (.box (lk 0 rfl rfl) rfl) (by (try simp only [List.set_cons_zero, List.set_cons_succ, List.cons_append, List.nil_append, List.append_nil, List.length_cons, List.length_nil, List.getD_cons_zero, List.getD_cons_succ, Nat.reduceAdd, Nat.reduceMul, Nat.zero_add, V.setAt_nil, V.setAt_st, V.setAt_arr, map_set']) <;> exact rfl) (by (try simp only [List.set_cons_zero, List.set_cons_succ, List.cons_append, List.nil_append, List.append_nil, List.length_cons, List.length_nil, List.getD_cons_zero, List.getD_cons_succ, Nat.reduceAdd, Nat.reduceMul, Nat.zero_add, V.setAt_nil, V.setAt_st, V.setAt_arr, map_set']) <;> exact rfl)) (by first | exact trivial | exact rfl | exact ⟨rfl, rfl⟩) ?_
  refine S.new 6 rfl rfl (.nf (.alloc zv23) (by (try simp only [List.set_cons_zero, List.set_cons_succ, List.cons_append, List.nil_append, List.append_nil, List.length_cons, List.length_nil, List.getD_cons_zero, List.getD_cons_succ, Nat.reduceAdd, Nat.reduceMul, Nat.zero_add, V.setAt_nil, V.setAt_st, V.setAt_arr, map_set']) <;> exact rfl) (by (try simp only [List.set_cons_zero, List.set_cons_succ, List.cons_append, List.nil_append, List.append_nil, List.length_cons, List.length_nil, List.getD_cons_zero, List.getD_cons_succ, Nat.reduceAdd, Nat.reduceMul, Nat.zero_add, V.setAt_nil, V.setAt_st, V.setAt_arr, map_set']) <;> exact rfl)) (by first | exact trivial | exact rfl | exact ⟨rfl, rfl⟩) ?_
  refine S.sil 7 rfl rfl (fun _ hF => .assign cI) ?_
  refine S.nil ?_
  refine thenQ_n ?_
  refine AWp.seq ?_
  refine AWp.seq ?_
  refine W.reg [0, 1, 2, 3] rfl ?_
  refine S.sil 10 rfl rfl (fun _ hF => .move (lk 4 rfl rfl)) ?_
  first | refine S.sil 11 rfl rfl (fun _ hF => .nv (.fieldAddr lay23 rfl rfl (lk 3 rfl rfl)) (by (try simp only [List.set_cons_zero, List.set_cons_succ, List.cons_append, List.nil_append, List.append_nil, List.length_cons, List.length_nil, List.getD_cons_zero, List.getD_cons_succ, Nat.reduceAdd, Nat.reduceMul, Nat.zero_add, V.setAt_nil, V.setAt_st, V.setAt_arr, map_set']) <;> exact rfl)) ?_ | refine S.sil 11 rfl rfl (fun _ hF => .fieldAddrC lay23 rfl rfl (lk 3 rfl rfl) rfl (by first | rfl | simp)) ?_
  first | refine S.qui 12 rfl rfl (fun _ => .load sz3 ag3 (lk 0 rfl rfl) (by first | rfl | simp) rfl (by first | rfl | simp [V.offOf]) (by first | rfl | (simp; done) | (simp; omega)) (by first | rfl | simp)) ?_ | refine S.sil 12 rfl rfl (fun _ hF => .loadC sz3 ag3 (lk 0 rfl rfl) (by first | rfl | simp) (by first | rfl | simp)) ?_
  refine S.sil 13 rfl rfl (fun _ hF => .neq (lk 2 rfl rfl) (lk 0 rfl rfl)) ?_
  refine S.nil ?_
  refine thenQ_n ?_
  refine AWp.cond (lk 0 rfl rfl) (fun c0 => ?_) (fun c0 => ?_)
  · try simp only [decide_eq_true_eq, decide_eq_false_iff_not, Bool.not_eq_true', Bool.not_eq_false', Bool.and_eq_true, Bool.or_eq_true, Bool.and_eq_false_iff, Bool.or_eq_false_iff, Bool.not_eq_true, Bool.not_eq_false, ite_eq_left_iff] at c0
    refine AWp.seq ?_
    refine W.reg [0, 1, 2] rfl ?_
    refine S.sil 14 rfl rfl (fun _ hF => .buildStL lay23 zv23 .nil rfl rfl) ?_
    refine S.effN rfl rfl (.nf (.store sz23 (lk 6 rfl rfl) (lk 0 rfl rfl) rfl (by first | rfl | simp) rfl (by first | rfl | simp [V.offOf]) (by first | rfl | simp) (by first | rfl | simp)) (by (try simp only [List.set_cons_zero, List.set_cons_succ, List.cons_append, List.nil_append, List.append_nil, List.length_cons, List.length_nil, List.getD_cons_zero, List.getD_cons_succ, Nat.reduceAdd, Nat.reduceMul, Nat.zero_add, V.setAt_nil, V.setAt_st, V.setAt_arr, map_set']) <;> exact rfl) (by (try simp only [List.set_cons_zero, List.set_cons_succ, List.cons_append, List.nil_append, List.append_nil, List.length_cons, List.length_nil, List.getD_cons_zero, List.getD_cons_succ, Nat.reduceAdd, Nat.reduceMul, Nat.zero_add, V.setAt_nil, V.setAt_st, V.setAt_arr, map_set']) <;> exact rfl)) (by first | exact trivial | exact rfl | exact ⟨rfl, rfl⟩) ?_
    refine S.sil 7 rfl rfl (fun _ hF => .assign cI) ?_
    refine S.nil ?_
    refine thenQ_n ?_
    refine AWp.ret ?_
    refine thenQ_r ?_
    refine endN rfl (.cons (.cell sz23 ag23 (lk 7 rfl rfl) (by first | rfl | simp) rfl rfl (by first | rfl | simp) (by first | rfl | simp)) (.cons (.tmp (lk 0 rfl rfl) rfl) .nil)) rfl (by first | rfl | simp [V.ltL, ]) ?_
    rw [writeLock, if_pos c0]; rfl
  · try simp only [decide_eq_true_eq, decide_eq_false_iff_not, Bool.not_eq_true', Bool.not_eq_false', Bool.and_eq_true, Bool.or_eq_true, Bool.and_eq_false_iff, Bool.or_eq_false_iff, Bool.not_eq_true, Bool.not_eq_false, ite_eq_left_iff] at c0
    refine AWp.skip ?_
    refine thenQ_n ?_
    refine AWp.seq ?_
    refine W.reg [0, 1, 2, 3, 4, 5, 6, 7] rfl ?_
    first | refine S.sil 16 rfl rfl (fun _ hF => .nv (.fieldAddr lay23 rfl rfl (lk 6 rfl rfl)) (by (try simp only [List.set_cons_zero, List.set_cons_succ, List.cons_append, List.nil_append, List.append_nil, List.length_cons, List.length_nil, List.getD_cons_zero, List.getD_cons_succ, Nat.reduceAdd, Nat.reduceMul, Nat.zero_add, V.setAt_nil, V.setAt_st, V.setAt_arr, map_set']) <;> exact rfl)) ?_ | refine S.sil 16 rfl rfl (fun _ hF => .fieldAddrC lay23 rfl rfl (lk 6 rfl rfl) rfl (by first | rfl | simp)) ?_
    first | refine S.qui 17 rfl rfl (fun _ => .load sz3 ag3 (lk 0 rfl rfl) (by first | rfl | simp) rfl (by first | rfl | simp [V.offOf]) (by first | rfl | (simp; done) | (simp; omega)) (by first | rfl | simp)) ?_ | refine S.sil 17 rfl rfl (fun _ hF => .loadC sz3 ag3 (lk 0 rfl rfl) (by first | rfl | simp) (by first | rfl | simp)) ?_
    refine S.sil 18 rfl rfl (fun _ hF => .callQ ent20 cF (.c (lk 0 rfl rfl) (by first | exact V.sub.refl _ | exact V.sub.forget _ _ _ | exact V.sub.nils_no _ | exact V.sub.nils _) (.c cI (by first | exact V.sub.refl _ | exact V.sub.forget _ _ _ | exact V.sub.nils_no _ | exact V.sub.nils _) .nil)) (Add_ok _ _)) ?_
    refine S.sil 15 rfl rfl (fun _ hF => .move (lk 0 rfl rfl)) ?_
    refine S.sil 19 rfl rfl (fun _ hF => .extract (lk 0 rfl rfl) rfl) ?_
    refine S.sil 20 rfl rfl (fun _ hF => .extract (lk 1 rfl rfl) rfl) ?_
    refine S.sil 8 rfl rfl (fun _ hF => .assign (lk 1 rfl rfl)) ?_
    refine S.sil 9 rfl rfl (fun _ hF => .assign (lk 1 rfl rfl)) ?_
    refine S.nil ?_
    refine thenQ_n ?_
    refine AWp.prune (.eq (lk 0 rfl rfl) rfl (.eq (lk 1 rfl rfl) rfl (.eq (lk 12 rfl rfl) rfl (.eq (lk 13 rfl rfl) rfl (.eq (lk 14 rfl rfl) rfl (.eq (lk 17 rfl rfl) rfl .nil)))))) ?_
    refine AWp.seq ?_
    refine AWp.seq ?_
    refine W.reg [0, 1, 2, 3, 4, 5, 6] rfl ?_
    refine S.sil 21 rfl rfl (fun _ hF => .move (lk 0 rfl rfl)) ?_
    refine S.sil 22 rfl rfl (fun _ hF => .neq (lk 0 rfl rfl) cI) ?_
    refine S.sil 23 rfl rfl (fun _ hF => .move (lk 0 rfl rfl)) ?_
    refine S.gsil 24 2 23 false rfl rfl rfl (lk 0 rfl rfl) (fun hB _ hF => .move (lk 8 rfl rfl)) ?_
    refine S.gsil 25 2 23 false rfl rfl rfl (lk 1 rfl rfl) (fun hB _ hF => .callQ ent19 cF (.c (ifT hB (lk 0 rfl rfl)) (by first | exact V.sub.refl _ | exact V.sub.forget _ _ _ | exact V.sub.nils_no _ | exact V.sub.nils _) .nil) (Is_ok _)) ?_
    refine S.gsil 26 2 23 false rfl rfl rfl (lk 2 rfl rfl) (fun hB _ hF => .not (ifT hB (lk 0 rfl rfl))) ?_
    refine S.sil 27 rfl rfl (fun _ hF => .pickOr (lk 3 rfl rfl) cB (fun h => ifT h (lk 0 rfl rfl))) ?_
    refine S.nil ?_
    refine thenQ_n ?_
    refine AWp.cond (lk 0 rfl rfl) (fun c1 => ?_) (fun c1 => ?_)
    · try simp only [decide_eq_true_eq, decide_eq_false_iff_not, Bool.not_eq_true', Bool.not_eq_false', Bool.and_eq_true, Bool.or_eq_true, Bool.and_eq_false_iff, Bool.or_eq_false_iff, Bool.not_eq_true, Bool.not_eq_false, ite_eq_left_iff] at c1
      refine AWp.seq ?_
      refine W.reg [0, 1, 2] rfl ?_
      refine S.sil 28 rfl rfl (fun _ hF => .buildStL lay23 zv23 .nil rfl rfl) ?_
      refine S.effN rfl rfl (.nf (.store sz23 (lk 11 rfl rfl) (lk 0 rfl rfl) rfl (by first | rfl | simp) rfl (by first | rfl | simp [V.offOf]) (by first | rfl | simp) (by first | rfl | simp)) (by (try simp only [List.set_cons_zero, List.set_cons_succ, List.cons_append, List.nil_append, List.append_nil, List.length_cons, List.length_nil, List.getD_cons_zero, List.getD_cons_succ, Nat.reduceAdd, Nat.reduceMul, Nat.zero_add, V.setAt_nil, V.setAt_st, V.setAt_arr, map_set']) <;> exact rfl) (by (try simp only [List.set_cons_zero, List.set_cons_succ, List.cons_append, List.nil_append, List.append_nil, List.length_cons, List.length_nil, List.getD_cons_zero, List.getD_cons_succ, Nat.reduceAdd, Nat.reduceMul, Nat.zero_add, V.setAt_nil, V.setAt_st, V.setAt_arr, map_set']) <;> exact rfl)) (by first | exact trivial | exact rfl | exact ⟨rfl, rfl⟩) ?_
      refine S.sil 7 rfl rfl (fun _ hF => .assign cI) ?_
      refine S.nil ?_
      refine thenQ_n ?_
      refine AWp.prune (.eq (lk 0 rfl rfl) rfl (.eq (lk 10 rfl rfl) rfl (.eq (lk 12 rfl rfl) rfl (.eq (lk 13 rfl rfl) rfl (.eq (lk 14 rfl rfl) rfl .nil))))) ?_
      refine AWp.ret ?_
      refine thenQ_r ?_
      refine endN rfl (.cons (.cell sz23 ag23 (lk 2 rfl rfl) (by first | rfl | simp) rfl rfl (by first | rfl | simp) (by first | rfl | simp)) (.cons (.tmp (lk 0 rfl rfl) rfl) .nil)) rfl (by first | rfl | simp [V.ltL, ]) ?_
      have h : ¬ (okAdd l.Ver 1 = true ∧ isN v = true) := by simp [addE] at c1; intro h; simp [h.1, h.2] at c1
      rw [writeLock, if_neg (by simpa using c0), if_neg h]; rfl
    · try simp only [decide_eq_true_eq, decide_eq_false_iff_not, Bool.not_eq_true', Bool.not_eq_false', Bool.and_eq_true, Bool.or_eq_true, Bool.and_eq_false_iff, Bool.or_eq_false_iff, Bool.not_eq_true, Bool.not_eq_false, ite_eq_left_iff] at c1
      refine AWp.skip ?_
      refine thenQ_n ?_
      refine AWp.seq ?_
      refine W.reg [0, 1, 2, 3, 4, 5] rfl ?_
      refine S.sil 29 rfl rfl (fun _ hF => .move (lk 8 rfl rfl)) ?_
      refine S.sil 30 rfl rfl (fun _ hF => .move (lk 13 rfl rfl)) ?_
      first | refine S.sil 31 rfl rfl (fun _ hF => .nv (.fieldAddr lay23 rfl rfl (lk 13 rfl rfl)) (by (try simp only [List.set_cons_zero, List.set_cons_succ, List.cons_append, List.nil_append, List.append_nil, List.length_cons, List.length_nil, List.getD_cons_zero, List.getD_cons_succ, Nat.reduceAdd, Nat.reduceMul, Nat.zero_add, V.setAt_nil, V.setAt_st, V.setAt_arr, map_set']) <;> exact rfl)) ?_ | refine S.sil 31 rfl rfl (fun _ hF => .fieldAddrC lay23 rfl rfl (lk 13 rfl rfl) rfl (by first | rfl | simp)) ?_
      refine S.effN rfl rfl (.nf (.store sz3 (lk 0 rfl rfl) (lk 2 rfl rfl) rfl (by first | rfl | simp) rfl (by first | rfl | simp [V.offOf]) (by first | rfl | simp) (by first | rfl | simp)) (by (try simp only [List.set_cons_zero, List.set_cons_succ, List.cons_append, List.nil_append, List.append_nil, List.length_cons, List.length_nil, List.getD_cons_zero, List.getD_cons_succ, Nat.reduceAdd, Nat.reduceMul, Nat.zero_add, V.setAt_nil, V.setAt_st, V.setAt_arr, map_set']) <;> exact rfl) (by (try simp only [List.set_cons_zero, List.set_cons_succ, List.cons_append, List.nil_append, List.append_nil, List.length_cons, List.length_nil, List.getD_cons_zero, List.getD_cons_succ, Nat.reduceAdd, Nat.reduceMul, Nat.zero_add, V.setAt_nil, V.setAt_st, V.setAt_arr, map_set']) <;> exact rfl)) (by first | exact trivial | exact rfl | exact ⟨rfl, rfl⟩) ?_
      first | refine S.sil 32 rfl rfl (fun _ hF => .nv (.fieldAddr lay23 rfl rfl (lk 14 rfl rfl)) (by (try simp only [List.set_cons_zero, List.set_cons_succ, List.cons_append, List.nil_append, List.append_nil, List.length_cons, List.length_nil, List.getD_cons_zero, List.getD_cons_succ, Nat.reduceAdd, Nat.reduceMul, Nat.zero_add, V.setAt_nil, V.setAt_st, V.setAt_arr, map_set']) <;> exact rfl)) ?_ | refine S.sil 32 rfl rfl (fun _ hF => .fieldAddrC lay23 rfl rfl (lk 14 rfl rfl) rfl (by first | rfl | simp)) ?_
      refine S.effN rfl rfl (.nf (.store sz3 (lk 0 rfl rfl) (lk 2 rfl rfl) rfl (by first | rfl | simp) rfl (by first | rfl | simp [V.offOf]) (by first | rfl | simp) (by first | rfl | simp)) (by (try simp only [List.set_cons_zero, List.set_cons_succ, List.cons_append, List.nil_append, List.append_nil, List.length_cons, List.length_nil, List.getD_cons_zero, List.getD_cons_succ, Nat.reduceAdd, Nat.reduceMul, Nat.zero_add, V.setAt_nil, V.setAt_st, V.setAt_arr, map_set']) <;> exact rfl) (by (try simp only [List.set_cons_zero, List.set_cons_succ, List.cons_append, List.nil_append, List.append_nil, List.length_cons, List.length_nil, List.getD_cons_zero, List.getD_cons_succ, Nat.reduceAdd, Nat.reduceMul, Nat.zero_add, V.setAt_nil, V.setAt_st, V.setAt_arr, map_set']) <;> exact rfl)) (by first | exact trivial | exact rfl | exact ⟨rfl, rfl⟩) ?_
      refine S.nil ?_
      refine thenQ_n ?_
      refine AWp.prune (.eq (lk 13 rfl rfl) rfl (.eq (lk 14 rfl rfl) rfl (.eq (lk 15 rfl rfl) rfl .nil))) ?_
      refine AWp.seq ?_
      refine W.reg [0, 1, 2] rfl ?_
      first | refine S.qui 33 rfl rfl (fun _ => .load sz23 ag23 (lk 2 rfl rfl) (by first | rfl | simp) rfl (by first | rfl | simp [V.offOf]) (by first | rfl | (simp; done) | (simp; omega)) (by first | rfl | simp)) ?_ | refine S.sil 33 rfl rfl (fun _ hF => .loadC sz23 ag23 (lk 2 rfl rfl) (by first | rfl | simp) (by first | rfl | simp)) ?_
      refine S.effN rfl rfl (.nf (.store sz23 (lk 2 rfl rfl) (lk 0 rfl rfl) rfl (by first | rfl | simp) rfl (by first | rfl | simp [V.offOf]) (by first | rfl | simp) (by first | rfl | simp)) (by (try simp only [List.set_cons_zero, List.set_cons_succ, List.cons_append, List.nil_append, List.append_nil, List.length_cons, List.length_nil, List.getD_cons_zero, List.getD_cons_succ, Nat.reduceAdd, Nat.reduceMul, Nat.zero_add, V.setAt_nil, V.setAt_st, V.setAt_arr, map_set']) <;> exact rfl) (by (try simp only [List.set_cons_zero, List.set_cons_succ, List.cons_append, List.nil_append, List.append_nil, List.length_cons, List.length_nil, List.getD_cons_zero, List.getD_cons_succ, Nat.reduceAdd, Nat.reduceMul, Nat.zero_add, V.setAt_nil, V.setAt_st, V.setAt_arr, map_set']) <;> exact rfl)) (by first | exact trivial | exact rfl | exact ⟨rfl, rfl⟩) ?_
      refine S.sil 7 rfl rfl (fun _ hF => .assign cI) ?_
      refine S.nil ?_
      refine thenQ_n ?_
      refine AWp.ret ?_
      refine endN rfl (.cons (.cell sz23 ag23 (lk 3 rfl rfl) (by first | rfl | simp) rfl rfl (by first | rfl | simp) (by first | rfl | simp)) (.cons (.tmp (lk 0 rfl rfl) rfl) .nil)) rfl (by first | rfl | simp [V.ltL, ]) ?_
      have h : okAdd l.Ver 1 = true ∧ isN v = true := by simp [addE] at c1; exact c1
      rw [writeLock, if_neg (by simpa using c0), if_pos h]; simp [addN, h.1, encLock, V.setAt]

theorem Pass_ok (l : Lock) (k to : Int) : PureC Pg 16 [encLock l, .int .i64 k, .int .i64 to] (.tup [encLock (passLock l k to).1, .int .i64 (passLock l k to).2]) := by
  refine PureC.of (CallSpec.of_body 37 0 Try.func16 rfl rfl rfl (by simp) ?_) (by simp []) (by simp [])
  refine AWp.seq ?_
  refine W.reg [0, 1, 2] rfl ?_
  refine S.new 3 rfl rfl (.nf (.box (lk 0 rfl rfl) rfl) (by (try simp only [List.set_cons_zero, List.set_cons_succ, List.cons_append, List.nil_append, List.append_nil, List.length_cons, List.length_nil, List.getD_cons_zero, List.getD_cons_succ, Nat.reduceAdd, Nat.reduceMul, Nat.zero_add, V.setAt_nil, V.setAt_st, V.setAt_arr, map_set']) <;> exact rfl) (by (try simp only [List.set_cons_zero, List.set_cons_succ, List.cons_append, List.nil_append, List.append_nil, List.length_cons, List.length_nil, List.getD_cons_zero, List.getD_cons_succ, Nat.reduceAdd, Nat.reduceMul, Nat.zero_add, V.setAt_nil, V.setAt_st, V.setAt_arr, map_set']) <;> exact rfl)) (by first | exact trivial | exact rfl | exact ⟨rfl, rfl⟩) ?_
  refine S.new 6 rfl rfl (.nf (.alloc zv23) (by (try simp only [List.set_cons_zero, List.set_cons_succ, List.cons_append, List.nil_append, List.append_nil, List.length_cons, List.length_nil, List.getD_cons_zero, List.getD_cons_succ, Nat.reduceAdd, Nat.reduceMul, Nat.zero_add, V.setAt_nil, V.setAt_st, V.setAt_arr, map_set']) <;> exact rfl) (by (try simp only [List.set_cons_zero, List.set_cons_succ, List.cons_append, List.nil_append, List.append_nil, List.length_cons, List.length_nil, List.getD_cons_zero, List.getD_cons_succ, Nat.reduceAdd, Nat.reduceMul, Nat.zero_add, V.setAt_nil, V.setAt_st, V.setAt_arr, map_set']) <;> exact rfl)) (by first | exact trivial | exact rfl | exact ⟨rfl, rfl⟩) ?_
  refine S.sil 7 rfl rfl (fun _ hF => .assign cI) ?_
  refine S.nil ?_
  refine thenQ_n ?_
  refine AWp.seq ?_
  refine AWp.block ?_
  refine AWp.seq ?_
  refine W.reg [0, 1, 2, 3, 4] rfl ?_
  refine S.sil 11 rfl rfl (fun _ hF => .move (lk 4 rfl rfl)) ?_
  first | refine S.sil 12 rfl rfl (fun _ hF => .nv (.fieldAddr lay23 rfl rfl (lk 3 rfl rfl)) (by (try simp only [List.set_cons_zero, List.set_cons_succ, List.cons_append, List.nil_append, List.append_nil, List.length_cons, List.length_nil, List.getD_cons_zero, List.getD_cons_succ, Nat.reduceAdd, Nat.reduceMul, Nat.zero_add, V.setAt_nil, V.setAt_st, V.setAt_arr, map_set']) <;> exact rfl)) ?_ | refine S.sil 12 rfl rfl (fun _ hF => .fieldAddrC lay23 rfl rfl (lk 3 rfl rfl) rfl (by first | rfl | simp)) ?_
  first | refine S.qui 13 rfl rfl (fun _ => .load sz3 ag3 (lk 0 rfl rfl) (by first | rfl | simp) rfl (by first | rfl | simp [V.offOf]) (by first | rfl | (simp; done) | (simp; omega)) (by first | rfl | simp)) ?_ | refine S.sil 13 rfl rfl (fun _ hF => .loadC sz3 ag3 (lk 0 rfl rfl) (by first | rfl | simp) (by first | rfl | simp)) ?_
  refine S.sil 14 rfl rfl (fun _ hF => .neq (lk 2 rfl rfl) (lk 0 rfl rfl)) ?_
  refine S.sil 10 rfl rfl (fun _ hF => .assign (lk 0 rfl rfl)) ?_
  refine S.nil ?_
  refine thenQ_n ?_
  refine AWp.cond (lk 0 rfl rfl) (fun c0 => ?_) (fun c0 => ?_)
  · try simp only [decide_eq_true_eq, decide_eq_false_iff_not, Bool.not_eq_true', Bool.not_eq_false', Bool.and_eq_true, Bool.or_eq_true, Bool.and_eq_false_iff, Bool.or_eq_false_iff, Bool.not_eq_true, Bool.not_eq_false, ite_eq_left_iff] at c0
    refine AWp.seq ?_
    refine W.reg [0, 1, 2] rfl ?_
    refine S.sil 15 rfl rfl (fun _ hF => .buildStL lay23 zv23 .nil rfl rfl) ?_
    refine S.effN rfl rfl (.nf (.store sz23 (lk 7 rfl rfl) (lk 0 rfl rfl) rfl (by first | rfl | simp) rfl (by first | rfl | simp [V.offOf]) (by first | rfl | simp) (by first | rfl | simp)) (by (try simp only [List.set_cons_zero, List.set_cons_succ, List.cons_append, List.nil_append, List.append_nil, List.length_cons, List.length_nil, List.getD_cons_zero, List.getD_cons_succ, Nat.reduceAdd, Nat.reduceMul, Nat.zero_add, V.setAt_nil, V.setAt_st, V.setAt_arr, map_set']) <;> exact rfl) (by (try simp only [List.set_cons_zero, List.set_cons_succ, List.cons_append, List.nil_append, List.append_nil, List.length_cons, List.length_nil, List.getD_cons_zero, List.getD_cons_succ, Nat.reduceAdd, Nat.reduceMul, Nat.zero_add, V.setAt_nil, V.setAt_st, V.setAt_arr, map_set']) <;> exact rfl)) (by first | exact trivial | exact rfl | exact ⟨rfl, rfl⟩) ?_
    refine S.sil 7 rfl rfl (fun _ hF => .assign cI) ?_
    refine S.nil ?_
    refine thenQ_n ?_
    refine AWp.ret ?_
    refine blockQ_r ?_
    refine thenQ_r ?_
    refine endN rfl (.cons (.cell sz23 ag23 (lk 8 rfl rfl) (by first | rfl | simp) rfl rfl (by first | rfl | simp) (by first | rfl | simp)) (.cons (.tmp (lk 0 rfl rfl) rfl) .nil)) rfl (by first | rfl | simp [V.ltL, ]) ?_
    rw [passLock, if_pos c0]; rfl
  · try simp only [decide_eq_true_eq, decide_eq_false_iff_not, Bool.not_eq_true', Bool.not_eq_false', Bool.and_eq_true, Bool.or_eq_true, Bool.and_eq_false_iff, Bool.or_eq_false_iff, Bool.not_eq_true, Bool.not_eq_false, ite_eq_left_iff] at c0
    refine AWp.seq ?_
    refine W.reg [0, 1, 2, 3] rfl ?_
    refine S.sil 17 rfl rfl (fun _ hF => .move (lk 10 rfl rfl)) ?_
    refine S.sil 18 rfl rfl (fun _ hF => .callQ ent18 cF (.c (lk 0 rfl rfl) (by first | exact V.sub.refl _ | exact V.sub.forget _ _ _ | exact V.sub.nils_no _ | exact V.sub.nils _) .nil) (lockis_ok _)) ?_
    refine S.sil 19 rfl rfl (fun _ hF => .not (lk 0 rfl rfl)) ?_
    refine S.sil 16 rfl rfl (fun _ hF => .assign (lk 0 rfl rfl)) ?_
    refine S.nil ?_
    refine thenQ_n ?_
    refine AWp.prune (.eq (lk 0 rfl rfl) rfl (.eq (lk 9 rfl rfl) rfl (.eq (lk 10 rfl rfl) rfl (.eq (lk 11 rfl rfl) rfl (.eq (lk 14 rfl rfl) rfl .nil))))) ?_
    refine AWp.cond (lk 0 rfl rfl) (fun c1 => ?_) (fun c1 => ?_)
    · try simp only [decide_eq_true_eq, decide_eq_false_iff_not, Bool.not_eq_true', Bool.not_eq_false', Bool.and_eq_true, Bool.or_eq_true, Bool.and_eq_false_iff, Bool.or_eq_false_iff, Bool.not_eq_true, Bool.not_eq_false, ite_eq_left_iff] at c1
      refine AWp.seq ?_
      refine W.reg [0, 1, 2] rfl ?_
      refine S.sil 20 rfl rfl (fun _ hF => .buildStL lay23 zv23 .nil rfl rfl) ?_
      refine S.effN rfl rfl (.nf (.store sz23 (lk 3 rfl rfl) (lk 0 rfl rfl) rfl (by first | rfl | simp) rfl (by first | rfl | simp [V.offOf]) (by first | rfl | simp) (by first | rfl | simp)) (by (try simp only [List.set_cons_zero, List.set_cons_succ, List.cons_append, List.nil_append, List.append_nil, List.length_cons, List.length_nil, List.getD_cons_zero, List.getD_cons_succ, Nat.reduceAdd, Nat.reduceMul, Nat.zero_add, V.setAt_nil, V.setAt_st, V.setAt_arr, map_set']) <;> exact rfl) (by (try simp only [List.set_cons_zero, List.set_cons_succ, List.cons_append, List.nil_append, List.append_nil, List.length_cons, List.length_nil, List.getD_cons_zero, List.getD_cons_succ, Nat.reduceAdd, Nat.reduceMul, Nat.zero_add, V.setAt_nil, V.setAt_st, V.setAt_arr, map_set']) <;> exact rfl)) (by first | exact trivial | exact rfl | exact ⟨rfl, rfl⟩) ?_
      refine S.sil 7 rfl rfl (fun _ hF => .assign cI) ?_
      refine S.nil ?_
      refine thenQ_n ?_
      refine AWp.ret ?_
      refine blockQ_r ?_
      refine thenQ_r ?_
      refine endN rfl (.cons (.cell sz23 ag23 (lk 4 rfl rfl) (by first | rfl | simp) rfl rfl (by first | rfl | simp) (by first | rfl | simp)) (.cons (.tmp (lk 0 rfl rfl) rfl) .nil)) rfl (by first | rfl | simp [V.ltL, ]) ?_
      rw [passLock, if_neg (by simpa using c0), if_pos c1]; rfl
    · try simp only [decide_eq_true_eq, decide_eq_false_iff_not, Bool.not_eq_true', Bool.not_eq_false', Bool.and_eq_true, Bool.or_eq_true, Bool.and_eq_false_iff, Bool.or_eq_false_iff, Bool.not_eq_true, Bool.not_eq_false, ite_eq_left_iff] at c1
      refine AWp.skip ?_
      refine blockQ_n ?_
      refine thenQ_n ?_
      refine AWp.seq ?_
      refine W.reg [0, 1, 2, 3, 4, 5, 6, 7] rfl ?_
      first | refine S.sil 22 rfl rfl (fun _ hF => .nv (.fieldAddr lay23 rfl rfl (lk 3 rfl rfl)) (by (try simp only [List.set_cons_zero, List.set_cons_succ, List.cons_append, List.nil_append, List.append_nil, List.length_cons, List.length_nil, List.getD_cons_zero, List.getD_cons_succ, Nat.reduceAdd, Nat.reduceMul, Nat.zero_add, V.setAt_nil, V.setAt_st, V.setAt_arr, map_set']) <;> exact rfl)) ?_ | refine S.sil 22 rfl rfl (fun _ hF => .fieldAddrC lay23 rfl rfl (lk 3 rfl rfl) rfl (by first | rfl | simp)) ?_
      first | refine S.qui 23 rfl rfl (fun _ => .load sz3 ag3 (lk 0 rfl rfl) (by first | rfl | simp) rfl (by first | rfl | simp [V.offOf]) (by first | rfl | (simp; done) | (simp; omega)) (by first | rfl | simp)) ?_ | refine S.sil 23 rfl rfl (fun _ hF => .loadC sz3 ag3 (lk 0 rfl rfl) (by first | rfl | simp) (by first | rfl | simp)) ?_
      refine S.sil 24 rfl rfl (fun _ hF => .callQ ent20 cF (.c (lk 0 rfl rfl) (by first | exact V.sub.refl _ | exact V.sub.forget _ _ _ | exact V.sub.nils_no _ | exact V.sub.nils _) (.c cI (by first | exact V.sub.refl _ | exact V.sub.forget _ _ _ | exact V.sub.nils_no _ | exact V.sub.nils _) .nil)) (Add_ok _ _)) ?_
      refine S.sil 21 rfl rfl (fun _ hF => .move (lk 0 rfl rfl)) ?_
      refine S.sil 25 rfl rfl (fun _ hF => .extract (lk 0 rfl rfl) rfl) ?_
      refine S.sil 26 rfl rfl (fun _ hF => .extract (lk 1 rfl rfl) rfl) ?_
      refine S.sil 8 rfl rfl (fun _ hF => .assign (lk 1 rfl rfl)) ?_
      refine S.sil 9 rfl rfl (fun _ hF => .assign (lk 1 rfl rfl)) ?_
      refine S.nil ?_
      refine thenQ_n ?_
      refine AWp.seq ?_
      refine AWp.seq ?_
      refine W.reg [0, 1] rfl ?_
      refine S.sil 27 rfl rfl (fun _ hF => .move (lk 0 rfl rfl)) ?_
      refine S.sil 28 rfl rfl (fun _ hF => .neq (lk 0 rfl rfl) cI) ?_
      refine S.nil ?_
      refine thenQ_n ?_
      refine AWp.cond (lk 0 rfl rfl) (fun c2 => ?_) (fun c2 => ?_)
      · try simp only [decide_eq_true_eq, decide_eq_false_iff_not, Bool.not_eq_true', Bool.not_eq_false', Bool.and_eq_true, Bool.or_eq_true, Bool.and_eq_false_iff, Bool.or_eq_false_iff, Bool.not_eq_true, Bool.not_eq_false, ite_eq_left_iff] at c2
        refine AWp.seq ?_
        refine W.reg [0, 1, 2, 3] rfl ?_
        refine S.sil 29 rfl rfl (fun _ hF => .buildStL lay23 zv23 .nil rfl rfl) ?_
        refine S.sil 30 rfl rfl (fun _ hF => .move (lk 3 rfl rfl)) ?_
        refine S.effN rfl rfl (.nf (.store sz23 (lk 14 rfl rfl) (lk 1 rfl rfl) rfl (by first | rfl | simp) rfl (by first | rfl | simp [V.offOf]) (by first | rfl | simp) (by first | rfl | simp)) (by (try simp only [List.set_cons_zero, List.set_cons_succ, List.cons_append, List.nil_append, List.append_nil, List.length_cons, List.length_nil, List.getD_cons_zero, List.getD_cons_succ, Nat.reduceAdd, Nat.reduceMul, Nat.zero_add, V.setAt_nil, V.setAt_st, V.setAt_arr, map_set']) <;> exact rfl) (by (try simp only [List.set_cons_zero, List.set_cons_succ, List.cons_append, List.nil_append, List.append_nil, List.length_cons, List.length_nil, List.getD_cons_zero, List.getD_cons_succ, Nat.reduceAdd, Nat.reduceMul, Nat.zero_add, V.setAt_nil, V.setAt_st, V.setAt_arr, map_set']) <;> exact rfl)) (by first | exact trivial | exact rfl | exact ⟨rfl, rfl⟩) ?_
        refine S.sil 7 rfl rfl (fun _ hF => .assign (lk 0 rfl rfl)) ?_
        refine S.nil ?_
        refine thenQ_n ?_
        refine AWp.prune (.eq (lk 0 rfl rfl) rfl (.eq (lk 6 rfl rfl) rfl (.eq (lk 15 rfl rfl) rfl (.eq (lk 16 rfl rfl) rfl (.eq (lk 17 rfl rfl) rfl .nil))))) ?_
        refine AWp.ret ?_
        refine thenQ_r ?_
        refine endN rfl (.cons (.cell sz23 ag23 (lk 2 rfl rfl) (by first | rfl | simp) rfl rfl (by first | rfl | simp) (by first | rfl | simp)) (.cons (.tmp (lk 0 rfl rfl) rfl) .nil)) rfl (by first | rfl | simp [V.ltL, ]) ?_
        have h : ¬ okAdd l.Seq 1 = true := by intro h; simp [addE, h] at c2
        rw [passLock, if_neg (by simpa using c0), if_neg (by simpa using c1), if_neg h]; simp [addE, h]; rfl
      · try simp only [decide_eq_true_eq, decide_eq_false_iff_not, Bool.not_eq_true', Bool.not_eq_false', Bool.and_eq_true, Bool.or_eq_true, Bool.and_eq_false_iff, Bool.or_eq_false_iff, Bool.not_eq_true, Bool.not_eq_false, ite_eq_left_iff] at c2
        refine AWp.skip ?_
        refine thenQ_n ?_
        refine AWp.prune (.eq (lk 3 rfl rfl) rfl (.eq (lk 11 rfl rfl) rfl (.eq (lk 12 rfl rfl) rfl (.eq (lk 13 rfl rfl) rfl (.eq (lk 14 rfl rfl) rfl .nil))))) ?_
        refine AWp.seq ?_
        refine W.reg [0, 1, 2, 3, 4, 5, 6, 7] rfl ?_
        refine S.sil 31 rfl rfl (fun _ hF => .move (lk 0 rfl rfl)) ?_
        refine S.sil 32 rfl rfl (fun _ hF => .move (lk 5 rfl rfl)) ?_
        first | refine S.sil 33 rfl rfl (fun _ hF => .nv (.fieldAddr lay23 rfl rfl (lk 5 rfl rfl)) (by (try simp only [List.set_cons_zero, List.set_cons_succ, List.cons_append, List.nil_append, List.append_nil, List.length_cons, List.length_nil, List.getD_cons_zero, List.getD_cons_succ, Nat.reduceAdd, Nat.reduceMul, Nat.zero_add, V.setAt_nil, V.setAt_st, V.setAt_arr, map_set']) <;> exact rfl)) ?_ | refine S.sil 33 rfl rfl (fun _ hF => .fieldAddrC lay23 rfl rfl (lk 5 rfl rfl) rfl (by first | rfl | simp)) ?_
        refine S.effN rfl rfl (.nf (.store sz3 (lk 0 rfl rfl) (lk 2 rfl rfl) rfl (by first | rfl | simp) rfl (by first | rfl | simp [V.offOf]) (by first | rfl | simp) (by first | rfl | simp)) (by (try simp only [List.set_cons_zero, List.set_cons_succ, List.cons_append, List.nil_append, List.append_nil, List.length_cons, List.length_nil, List.getD_cons_zero, List.getD_cons_succ, Nat.reduceAdd, Nat.reduceMul, Nat.zero_add, V.setAt_nil, V.setAt_st, V.setAt_arr, map_set']) <;> exact rfl) (by (try simp only [List.set_cons_zero, List.set_cons_succ, List.cons_append, List.nil_append, List.append_nil, List.length_cons, List.length_nil, List.getD_cons_zero, List.getD_cons_succ, Nat.reduceAdd, Nat.reduceMul, Nat.zero_add, V.setAt_nil, V.setAt_st, V.setAt_arr, map_set']) <;> exact rfl)) (by first | exact trivial | exact rfl | exact ⟨rfl, rfl⟩) ?_
        first | refine S.sil 34 rfl rfl (fun _ hF => .nv (.fieldAddr lay23 rfl rfl (lk 6 rfl rfl)) (by (try simp only [List.set_cons_zero, List.set_cons_succ, List.cons_append, List.nil_append, List.append_nil, List.length_cons, List.length_nil, List.getD_cons_zero, List.getD_cons_succ, Nat.reduceAdd, Nat.reduceMul, Nat.zero_add, V.setAt_nil, V.setAt_st, V.setAt_arr, map_set']) <;> exact rfl)) ?_ | refine S.sil 34 rfl rfl (fun _ hF => .fieldAddrC lay23 rfl rfl (lk 6 rfl rfl) rfl (by first | rfl | simp)) ?_
        refine S.effN rfl rfl (.nf (.store sz3 (lk 0 rfl rfl) cI rfl (by first | rfl | simp) rfl (by first | rfl | simp [V.offOf]) (by first | rfl | simp) (by first | rfl | simp)) (by (try simp only [List.set_cons_zero, List.set_cons_succ, List.cons_append, List.nil_append, List.append_nil, List.length_cons, List.length_nil, List.getD_cons_zero, List.getD_cons_succ, Nat.reduceAdd, Nat.reduceMul, Nat.zero_add, V.setAt_nil, V.setAt_st, V.setAt_arr, map_set']) <;> exact rfl) (by (try simp only [List.set_cons_zero, List.set_cons_succ, List.cons_append, List.nil_append, List.append_nil, List.length_cons, List.length_nil, List.getD_cons_zero, List.getD_cons_succ, Nat.reduceAdd, Nat.reduceMul, Nat.zero_add, V.setAt_nil, V.setAt_st, V.setAt_arr, map_set']) <;> exact rfl)) (by first | exact trivial | exact rfl | exact ⟨rfl, rfl⟩) ?_
        first | refine S.sil 35 rfl rfl (fun _ hF => .nv (.fieldAddr lay23 rfl rfl (lk 7 rfl rfl)) (by (try simp only [List.set_cons_zero, List.set_cons_succ, List.cons_append, List.nil_append, List.append_nil, List.length_cons, List.length_nil, List.getD_cons_zero, List.getD_cons_succ, Nat.reduceAdd, Nat.reduceMul, Nat.zero_add, V.setAt_nil, V.setAt_st, V.setAt_arr, map_set']) <;> exact rfl)) ?_ | refine S.sil 35 rfl rfl (fun _ hF => .fieldAddrC lay23 rfl rfl (lk 7 rfl rfl) rfl (by first | rfl | simp)) ?_
        refine S.effN rfl rfl (.nf (.store sz3 (lk 0 rfl rfl) (lk 3 rfl rfl) rfl (by first | rfl | simp) rfl (by first | rfl | simp [V.offOf]) (by first | rfl | simp) (by first | rfl | simp)) (by (try simp only [List.set_cons_zero, List.set_cons_succ, List.cons_append, List.nil_append, List.append_nil, List.length_cons, List.length_nil, List.getD_cons_zero, List.getD_cons_succ, Nat.reduceAdd, Nat.reduceMul, Nat.zero_add, V.setAt_nil, V.setAt_st, V.setAt_arr, map_set']) <;> exact rfl) (by (try simp only [List.set_cons_zero, List.set_cons_succ, List.cons_append, List.nil_append, List.append_nil, List.length_cons, List.length_nil, List.getD_cons_zero, List.getD_cons_succ, Nat.reduceAdd, Nat.reduceMul, Nat.zero_add, V.setAt_nil, V.setAt_st, V.setAt_arr, map_set']) <;> exact rfl)) (by first | exact trivial | exact rfl | exact ⟨rfl, rfl⟩) ?_
        refine S.nil ?_
        refine thenQ_n ?_
        refine AWp.seq ?_
        refine W.reg [0, 1, 2] rfl ?_
        first | refine S.qui 36 rfl rfl (fun _ => .load sz23 ag23 (lk 8 rfl rfl) (by first | rfl | simp) rfl (by first | rfl | simp [V.offOf]) (by first | rfl | (simp; done) | (simp; omega)) (by first | rfl | simp)) ?_ | refine S.sil 36 rfl rfl (fun _ hF => .loadC sz23 ag23 (lk 8 rfl rfl) (by first | rfl | simp) (by first | rfl | simp)) ?_
        refine S.effN rfl rfl (.nf (.store sz23 (lk 8 rfl rfl) (lk 0 rfl rfl) rfl (by first | rfl | simp) rfl (by first | rfl | simp [V.offOf]) (by first | rfl | simp) (by first | rfl | simp)) (by (try simp only [List.set_cons_zero, List.set_cons_succ, List.cons_append, List.nil_append, List.append_nil, List.length_cons, List.length_nil, List.getD_cons_zero, List.getD_cons_succ, Nat.reduceAdd, Nat.reduceMul, Nat.zero_add, V.setAt_nil, V.setAt_st, V.setAt_arr, map_set']) <;> exact rfl) (by (try simp only [List.set_cons_zero, List.set_cons_succ, List.cons_append, List.nil_append, List.append_nil, List.length_cons, List.length_nil, List.getD_cons_zero, List.getD_cons_succ, Nat.reduceAdd, Nat.reduceMul, Nat.zero_add, V.setAt_nil, V.setAt_st, V.setAt_arr, map_set']) <;> exact rfl)) (by first | exact trivial | exact rfl | exact ⟨rfl, rfl⟩) ?_
        refine S.sil 7 rfl rfl (fun _ hF => .assign cI) ?_
        refine S.nil ?_
        refine thenQ_n ?_
        refine AWp.prune (.eq (lk 0 rfl rfl) rfl (.eq (lk 9 rfl rfl) rfl .nil)) ?_
        refine AWp.ret ?_
        refine endN rfl (.cons (.cell sz23 ag23 (lk 1 rfl rfl) (by first | rfl | simp) rfl rfl (by first | rfl | simp) (by first | rfl | simp)) (.cons (.tmp (lk 0 rfl rfl) rfl) .nil)) rfl (by first | rfl | simp [V.ltL, ]) ?_
        have h : okAdd l.Seq 1 = true := by simpa [addE] using c2
        rw [passLock, if_neg (by simpa using c0), if_neg (by simpa using c1), if_pos h]; simp [addN, h, encLock, V.setAt]

theorem Right1_ok (n : Int) : PureC Pg 21 [.int .i64 n] (.bool (decide (0 ≤ n) && isN n)) := by
  refine PureC.of (CallSpec.of_body 9 0 Try.func21 rfl rfl rfl (by simp) ?_) (by simp []) (by simp [])
  refine AWp.seq ?_
  refine W.reg [0] rfl ?_
  refine S.sil 2 rfl rfl (fun _ hF => .assign cB) ?_
  refine S.nil ?_
  refine thenQ_n ?_
  refine AWp.seq ?_
  refine W.reg [0, 1, 2, 3, 4, 5, 6] rfl ?_
  refine S.sil 3 rfl rfl (fun _ hF => .move (lk 1 rfl rfl)) ?_
  refine S.sil 4 rfl rfl (fun _ hF => .geq (lk 0 rfl rfl) cI) ?_
  refine S.sil 5 rfl rfl (fun _ hF => .move (lk 0 rfl rfl)) ?_
  refine S.gsil 6 2 5 true rfl rfl rfl (lk 0 rfl rfl) (fun hB _ hF => .move (lk 4 rfl rfl)) ?_
  refine S.gsil 7 2 5 true rfl rfl rfl (lk 1 rfl rfl) (fun hB _ hF => .callQ ent19 cF (.c (ifT hB (lk 0 rfl rfl)) (by first | exact V.sub.refl _ | exact V.sub.forget _ _ _ | exact V.sub.nils_no _ | exact V.sub.nils _) .nil) (Is_ok _)) ?_
  refine S.sil 8 rfl rfl (fun _ hF => .pickAnd (lk 2 rfl rfl) (fun h => ifT h (lk 0 rfl rfl)) cB) ?_
  refine S.sil 2 rfl rfl (fun _ hF => .assign (lk 0 rfl rfl)) ?_
  refine S.nil ?_
  refine thenQ_n ?_
  refine AWp.ret ?_
  refine end1 rfl (lk 0 rfl rfl) rfl (by first | rfl | simp []) ?_
  rfl

theorem Right_ok (l : Lock) : PureC Pg 17 [encLock l] (.bool (rightLock l)) := by
  refine PureC.of (CallSpec.of_body 24 0 Try.func17 rfl rfl rfl (by simp) ?_) (by simp []) (by simp [])
  refine AWp.seq ?_
  refine W.reg [0, 1] rfl ?_
  refine S.new 1 rfl rfl (.nf (.box (lk 0 rfl rfl) rfl) (by (try simp only [List.set_cons_zero, List.set_cons_succ, List.cons_append, List.nil_append, List.append_nil, List.length_cons, List.length_nil, List.getD_cons_zero, List.getD_cons_succ, Nat.reduceAdd, Nat.reduceMul, Nat.zero_add, V.setAt_nil, V.setAt_st, V.setAt_arr, map_set']) <;> exact rfl) (by (try simp only [List.set_cons_zero, List.set_cons_succ, List.cons_append, List.nil_append, List.append_nil, List.length_cons, List.length_nil, List.getD_cons_zero, List.getD_cons_succ, Nat.reduceAdd, Nat.reduceMul, Nat.zero_add, V.setAt_nil, V.setAt_st, V.setAt_arr, map_set']) <;> exact rfl)) (by first | exact trivial | exact rfl | exact ⟨rfl, rfl⟩) ?_
  refine S.sil 2 rfl rfl (fun _ hF => .assign cB) ?_
  refine S.nil ?_
  refine thenQ_n ?_
  refine AWp.seq ?_
  refine W.reg [0] rfl ?_
  refine S.sil 3 rfl rfl (fun _ hF => .assign cF) ?_
  refine S.nil ?_
  refine thenQ_n ?_
  refine AWp.seq ?_
  refine W.reg [0, 1, 2, 3, 4, 5, 6, 7, 8, 9, 10, 11, 12, 13, 14, 15, 16, 17, 18, 19, 20] rfl ?_
  refine S.sil 4 rfl rfl (fun _ hF => .move (lk 0 rfl rfl)) ?_
  first | refine S.sil 5 rfl rfl (fun _ hF => .nv (.fieldAddr lay23 rfl rfl (lk 3 rfl rfl)) (by (try simp only [List.set_cons_zero, List.set_cons_succ, List.cons_append, List.nil_append, List.append_nil, List.length_cons, List.length_nil, List.getD_cons_zero, List.getD_cons_succ, Nat.reduceAdd, Nat.reduceMul, Nat.zero_add, V.setAt_nil, V.setAt_st, V.setAt_arr, map_set']) <;> exact rfl)) ?_ | refine S.sil 5 rfl rfl (fun _ hF => .fieldAddrC lay23 rfl rfl (lk 3 rfl rfl) rfl (by first | rfl | simp)) ?_
  first | refine S.qui 6 rfl rfl (fun _ => .load sz3 ag3 (lk 0 rfl rfl) (by first | rfl | simp) rfl (by first | rfl | simp [V.offOf]) (by first | rfl | (simp; done) | (simp; omega)) (by first | rfl | simp)) ?_ | refine S.sil 6 rfl rfl (fun _ hF => .loadC sz3 ag3 (lk 0 rfl rfl) (by first | rfl | simp) (by first | rfl | simp)) ?_
  refine S.sil 7 rfl rfl (fun _ hF => .callQ ent21 (lk 2 rfl rfl) (.c (lk 0 rfl rfl) (by first | exact V.sub.refl _ | exact V.sub.forget _ _ _ | exact V.sub.nils_no _ | exact V.sub.nils _) .nil) (Right1_ok _)) ?_
  refine S.sil 8 rfl rfl (fun _ hF => .move (lk 0 rfl rfl)) ?_
  refine S.gsil 9 4 8 true rfl rfl rfl (lk 0 rfl rfl) (fun hB _ hF => .move (lk 5 rfl rfl)) ?_
  first | refine S.gsil 10 4 8 true rfl rfl rfl (lk 1 rfl rfl) (fun hB _ hF => .nv (.fieldAddr lay23 rfl rfl (lk 8 rfl rfl)) (by (try simp only [List.set_cons_zero, List.set_cons_succ, List.cons_append, List.nil_append, List.append_nil, List.length_cons, List.length_nil, List.getD_cons_zero, List.getD_cons_succ, Nat.reduceAdd, Nat.reduceMul, Nat.zero_add, V.setAt_nil, V.setAt_st, V.setAt_arr, map_set']) <;> exact rfl)) ?_ | refine S.gsil 10 4 8 true rfl rfl rfl (lk 1 rfl rfl) (fun hB _ hF => .fieldAddrC lay23 rfl rfl (lk 8 rfl rfl) rfl (by first | rfl | simp)) ?_
  first | refine S.gqui 11 4 8 true rfl rfl rfl (lk 2 rfl rfl) (fun hB _ => .load sz3 ag3 (ifT hB (lk 0 rfl rfl)) (by first | rfl | simp) rfl (by first | rfl | simp [V.offOf]) (by first | rfl | (simp; done) | (simp; omega)) (by first | rfl | simp)) ?_ | refine S.gsil 11 4 8 true rfl rfl rfl (lk 2 rfl rfl) (fun hB _ hF => .loadC sz3 ag3 (ifT hB (lk 0 rfl rfl)) (by first | rfl | simp) (by first | rfl | simp)) ?_
  refine S.gsil 12 4 8 true rfl rfl rfl (lk 3 rfl rfl) (fun hB _ hF => .callQ ent21 (ifT hB (lk 2 rfl rfl)) (.c (ifT hB (lk 0 rfl rfl)) (by first | exact V.sub.refl _ | exact V.sub.forget _ _ _ | exact V.sub.nils_no _ | exact V.sub.nils _) .nil) (Right1_ok _)) ?_
  refine S.sil 13 rfl rfl (fun _ hF => .pickAnd (lk 4 rfl rfl) (fun h => ifT h (lk 0 rfl rfl)) cB) ?_
  refine S.sil 14 rfl rfl (fun _ hF => .move (lk 0 rfl rfl)) ?_
  first | refine S.gsil 15 10 14 true rfl rfl rfl (lk 0 rfl rfl) (fun hB _ hF => .nv (.fieldAddr lay23 rfl rfl (lk 13 rfl rfl)) (by (try simp only [List.set_cons_zero, List.set_cons_succ, List.cons_append, List.nil_append, List.append_nil, List.length_cons, List.length_nil, List.getD_cons_zero, List.getD_cons_succ, Nat.reduceAdd, Nat.reduceMul, Nat.zero_add, V.setAt_nil, V.setAt_st, V.setAt_arr, map_set']) <;> exact rfl)) ?_ | refine S.gsil 15 10 14 true rfl rfl rfl (lk 0 rfl rfl) (fun hB _ hF => .fieldAddrC lay23 rfl rfl (lk 13 rfl rfl) rfl (by first | rfl | simp)) ?_
  first | refine S.gqui 16 10 14 true rfl rfl rfl (lk 1 rfl rfl) (fun hB _ => .load sz3 ag3 (ifT hB (lk 0 rfl rfl)) (by first | rfl | simp) rfl (by first | rfl | simp [V.offOf]) (by first | rfl | (simp; done) | (simp; omega)) (by first | rfl | simp)) ?_ | refine S.gsil 16 10 14 true rfl rfl rfl (lk 1 rfl rfl) (fun hB _ hF => .loadC sz3 ag3 (ifT hB (lk 0 rfl rfl)) (by first | rfl | simp) (by first | rfl | simp)) ?_
  refine S.gsil 17 10 14 true rfl rfl rfl (lk 2 rfl rfl) (fun hB _ hF => .callQ ent18 cF (.c (ifT hB (lk 0 rfl rfl)) (by first | exact V.sub.refl _ | exact V.sub.forget _ _ _ | exact V.sub.nils_no _ | exact V.sub.nils _) .nil) (lockis_ok _)) ?_
  refine S.sil 18 rfl rfl (fun _ hF => .pickAnd (lk 3 rfl rfl) (fun h => ifT h (lk 0 rfl rfl)) cB) ?_
  refine S.sil 19 rfl rfl (fun _ hF => .move (lk 0 rfl rfl)) ?_
  first | refine S.gsil 20 15 19 true rfl rfl rfl (lk 0 rfl rfl) (fun hB _ hF => .nv (.fieldAddr lay23 rfl rfl (lk 18 rfl rfl)) (by (try simp only [List.set_cons_zero, List.set_cons_succ, List.cons_append, List.nil_append, List.append_nil, List.length_cons, List.length_nil, List.getD_cons_zero, List.getD_cons_succ, Nat.reduceAdd, Nat.reduceMul, Nat.zero_add, V.setAt_nil, V.setAt_st, V.setAt_arr, map_set']) <;> exact rfl)) ?_ | refine S.gsil 20 15 19 true rfl rfl rfl (lk 0 rfl rfl) (fun hB _ hF => .fieldAddrC lay23 rfl rfl (lk 18 rfl rfl) rfl (by first | rfl | simp)) ?_
  first | refine S.gqui 21 15 19 true rfl rfl rfl (lk 1 rfl rfl) (fun hB _ => .load sz3 ag3 (ifT hB (lk 0 rfl rfl)) (by first | rfl | simp) rfl (by first | rfl | simp [V.offOf]) (by first | rfl | (simp; done) | (simp; omega)) (by first | rfl | simp)) ?_ | refine S.gsil 21 15 19 true rfl rfl rfl (lk 1 rfl rfl) (fun hB _ hF => .loadC sz3 ag3 (ifT hB (lk 0 rfl rfl)) (by first | rfl | simp) (by first | rfl | simp)) ?_
  refine S.gsil 22 15 19 true rfl rfl rfl (lk 2 rfl rfl) (fun hB _ hF => .callQ ent19 cF (.c (ifT hB (lk 0 rfl rfl)) (by first | exact V.sub.refl _ | exact V.sub.forget _ _ _ | exact V.sub.nils_no _ | exact V.sub.nils _) .nil) (Is_ok _)) ?_
  refine S.sil 23 rfl rfl (fun _ hF => .pickAnd (lk 3 rfl rfl) (fun h => ifT h (lk 0 rfl rfl)) cB) ?_
  refine S.sil 2 rfl rfl (fun _ hF => .assign (lk 0 rfl rfl)) ?_
  refine S.nil ?_
  refine thenQ_n ?_
  refine AWp.prune (.eq (lk 0 rfl rfl) rfl .nil) ?_
  refine AWp.ret ?_
  refine end1 rfl (lk 0 rfl rfl) rfl (by first | rfl | simp []) ?_
  rfl

theorem Join_ok (a b : Lock) : PureC Pg 11 [encLock a, encLock b] (encLock (joinLock a b)) := by
  refine PureC.of (CallSpec.of_body 11 0 Try.func11 rfl rfl rfl (by simp) ?_) (by simp []) (by simp [])
  refine AWp.seq ?_
  refine W.reg [0, 1, 2] rfl ?_
  refine S.new 2 rfl rfl (.nf (.box (lk 0 rfl rfl) rfl) (by (try simp only [List.set_cons_zero, List.set_cons_succ, List.cons_append, List.nil_append, List.append_nil, List.length_cons, List.length_nil, List.getD_cons_zero, List.getD_cons_succ, Nat.reduceAdd, Nat.reduceMul, Nat.zero_add, V.setAt_nil, V.setAt_st, V.setAt_arr, map_set']) <;> exact rfl) (by (try simp only [List.set_cons_zero, List.set_cons_succ, List.cons_append, List.nil_append, List.append_nil, List.length_cons, List.length_nil, List.getD_cons_zero, List.getD_cons_succ, Nat.reduceAdd, Nat.reduceMul, Nat.zero_add, V.setAt_nil, V.setAt_st, V.setAt_arr, map_set']) <;> exact rfl)) (by first | exact trivial | exact rfl | exact ⟨rfl, rfl⟩) ?_
  refine S.new 3 rfl rfl (.nf (.box (lk 2 rfl rfl) rfl) (by (try simp only [List.set_cons_zero, List.set_cons_succ, List.cons_append, List.nil_append, List.append_nil, List.length_cons, List.length_nil, List.getD_cons_zero, List.getD_cons_succ, Nat.reduceAdd, Nat.reduceMul, Nat.zero_add, V.setAt_nil, V.setAt_st, V.setAt_arr, map_set']) <;> exact rfl) (by (try simp only [List.set_cons_zero, List.set_cons_succ, List.cons_append, List.nil_append, List.append_nil, List.length_cons, List.length_nil, List.getD_cons_zero, List.getD_cons_succ, Nat.reduceAdd, Nat.reduceMul, Nat.zero_add, V.setAt_nil, V.setAt_st, V.setAt_arr, map_set']) <;> exact rfl)) (by first | exact trivial | exact rfl | exact ⟨rfl, rfl⟩) ?_
  refine S.new 4 rfl rfl (.nf (.alloc zv23) (by (try simp only [List.set_cons_zero, List.set_cons_succ, List.cons_append, List.nil_append, List.append_nil, List.length_cons, List.length_nil, List.getD_cons_zero, List.getD_cons_succ, Nat.reduceAdd, Nat.reduceMul, Nat.zero_add, V.setAt_nil, V.setAt_st, V.setAt_arr, map_set']) <;> exact rfl) (by (try simp only [List.set_cons_zero, List.set_cons_succ, List.cons_append, List.nil_append, List.append_nil, List.length_cons, List.length_nil, List.getD_cons_zero, List.getD_cons_succ, Nat.reduceAdd, Nat.reduceMul, Nat.zero_add, V.setAt_nil, V.setAt_st, V.setAt_arr, map_set']) <;> exact rfl)) (by first | exact trivial | exact rfl | exact ⟨rfl, rfl⟩) ?_
  refine S.nil ?_
  refine thenQ_n ?_
  refine AWp.seq ?_
  refine AWp.seq ?_
  refine W.reg [0, 1, 2, 3] rfl ?_
  first | refine S.qui 5 rfl rfl (fun _ => .load sz23 ag23 (lk 2 rfl rfl) (by first | rfl | simp) rfl (by first | rfl | simp [V.offOf]) (by first | rfl | (simp; done) | (simp; omega)) (by first | rfl | simp)) ?_ | refine S.sil 5 rfl rfl (fun _ hF => .loadC sz23 ag23 (lk 2 rfl rfl) (by first | rfl | simp) (by first | rfl | simp)) ?_
  first | refine S.qui 6 rfl rfl (fun _ => .load sz23 ag23 (lk 2 rfl rfl) (by first | rfl | simp) rfl (by first | rfl | simp [V.offOf]) (by first | rfl | (simp; done) | (simp; omega)) (by first | rfl | simp)) ?_ | refine S.sil 6 rfl rfl (fun _ hF => .loadC sz23 ag23 (lk 2 rfl rfl) (by first | rfl | simp) (by first | rfl | simp)) ?_
  refine S.sil 7 rfl rfl (fun _ hF => .callQ ent9 cF (.c (lk 1 rfl rfl) (by first | exact V.sub.refl _ | exact V.sub.forget _ _ _ | exact V.sub.nils_no _ | exact V.sub.nils _) (.c (lk 0 rfl rfl) (by first | exact V.sub.refl _ | exact V.sub.forget _ _ _ | exact V.sub.nils_no _ | exact V.sub.nils _) .nil)) (Compare_ok _ _)) ?_
  refine S.sil 8 rfl rfl (fun _ hF => .lss (lk 0 rfl rfl) cI) ?_
  refine S.nil ?_
  refine thenQ_n ?_
  refine AWp.cond (lk 0 rfl rfl) (fun c0 => ?_) (fun c0 => ?_)
  · try simp only [decide_eq_true_eq, decide_eq_false_iff_not, Bool.not_eq_true', Bool.not_eq_false', Bool.and_eq_true, Bool.or_eq_true, Bool.and_eq_false_iff, Bool.or_eq_false_iff, Bool.not_eq_true, Bool.not_eq_false, ite_eq_left_iff] at c0
    refine AWp.seq ?_
    refine W.reg [0, 1] rfl ?_
    first | refine S.qui 9 rfl rfl (fun _ => .load sz23 ag23 (lk 5 rfl rfl) (by first | rfl | simp) rfl (by first | rfl | simp [V.offOf]) (by first | rfl | (simp; done) | (simp; omega)) (by first | rfl | simp)) ?_ | refine S.sil 9 rfl rfl (fun _ hF => .loadC sz23 ag23 (lk 5 rfl rfl) (by first | rfl | simp) (by first | rfl | simp)) ?_
    refine S.effN rfl rfl (.nf (.store sz23 (lk 5 rfl rfl) (lk 0 rfl rfl) rfl (by first | rfl | simp) rfl (by first | rfl | simp [V.offOf]) (by first | rfl | simp) (by first | rfl | simp)) (by (try simp only [List.set_cons_zero, List.set_cons_succ, List.cons_append, List.nil_append, List.append_nil, List.length_cons, List.length_nil, List.getD_cons_zero, List.getD_cons_succ, Nat.reduceAdd, Nat.reduceMul, Nat.zero_add, V.setAt_nil, V.setAt_st, V.setAt_arr, map_set']) <;> exact rfl) (by (try simp only [List.set_cons_zero, List.set_cons_succ, List.cons_append, List.nil_append, List.append_nil, List.length_cons, List.length_nil, List.getD_cons_zero, List.getD_cons_succ, Nat.reduceAdd, Nat.reduceMul, Nat.zero_add, V.setAt_nil, V.setAt_st, V.setAt_arr, map_set']) <;> exact rfl)) (by first | exact trivial | exact rfl | exact ⟨rfl, rfl⟩) ?_
    refine S.nil ?_
    refine thenQ_n ?_
    refine AWp.ret ?_
    refine thenQ_r ?_
    refine end1c rfl (.cell sz23 ag23 (lk 5 rfl rfl) (by first | rfl | simp) rfl rfl (by first | rfl | simp) (by first | rfl | simp)) (by first | rfl | simp []) ?_
    rw [joinLock, if_pos c0]
  · try simp only [decide_eq_true_eq, decide_eq_false_iff_not, Bool.not_eq_true', Bool.not_eq_false', Bool.and_eq_true, Bool.or_eq_true, Bool.and_eq_false_iff, Bool.or_eq_false_iff, Bool.not_eq_true, Bool.not_eq_false, ite_eq_left_iff] at c0
    refine AWp.skip ?_
    refine thenQ_n ?_
    refine AWp.seq ?_
    refine W.reg [0, 1] rfl ?_
    first | refine S.qui 10 rfl rfl (fun _ => .load sz23 ag23 (lk 6 rfl rfl) (by first | rfl | simp) rfl (by first | rfl | simp [V.offOf]) (by first | rfl | (simp; done) | (simp; omega)) (by first | rfl | simp)) ?_ | refine S.sil 10 rfl rfl (fun _ hF => .loadC sz23 ag23 (lk 6 rfl rfl) (by first | rfl | simp) (by first | rfl | simp)) ?_
    refine S.effN rfl rfl (.nf (.store sz23 (lk 5 rfl rfl) (lk 0 rfl rfl) rfl (by first | rfl | simp) rfl (by first | rfl | simp [V.offOf]) (by first | rfl | simp) (by first | rfl | simp)) (by (try simp only [List.set_cons_zero, List.set_cons_succ, List.cons_append, List.nil_append, List.append_nil, List.length_cons, List.length_nil, List.getD_cons_zero, List.getD_cons_succ, Nat.reduceAdd, Nat.reduceMul, Nat.zero_add, V.setAt_nil, V.setAt_st, V.setAt_arr, map_set']) <;> exact rfl) (by (try simp only [List.set_cons_zero, List.set_cons_succ, List.cons_append, List.nil_append, List.append_nil, List.length_cons, List.length_nil, List.getD_cons_zero, List.getD_cons_succ, Nat.reduceAdd, Nat.reduceMul, Nat.zero_add, V.setAt_nil, V.setAt_st, V.setAt_arr, map_set']) <;> exact rfl)) (by first | exact trivial | exact rfl | exact ⟨rfl, rfl⟩) ?_
    refine S.nil ?_
    refine thenQ_n ?_
    refine AWp.ret ?_
    refine end1c rfl (.cell sz23 ag23 (lk 5 rfl rfl) (by first | rfl | simp) rfl rfl (by first | rfl | simp) (by first | rfl | simp)) (by first | rfl | simp []) ?_
    rw [joinLock, if_neg (by omega)]

theorem rBehind_ok (a b : Lock) : PureC Pg 13 [encLock a, encLock b] (.bool (behindLock a b)) := by
  refine PureC.of (CallSpec.of_body 40 0 Try.func13 rfl rfl rfl (by simp) ?_) (by simp []) (by simp [])
  refine AWp.seq ?_
  refine W.reg [0, 1, 2] rfl ?_
  refine S.new 2 rfl rfl (.nf (.box (lk 0 rfl rfl) rfl) (by (try simp only [List.set_cons_zero, List.set_cons_succ, List.cons_append, List.nil_append, List.append_nil, List.length_cons, List.length_nil, List.getD_cons_zero, List.getD_cons_succ, Nat.reduceAdd, Nat.reduceMul, Nat.zero_add, V.setAt_nil, V.setAt_st, V.setAt_arr, map_set']) <;> exact rfl) (by (try simp only [List.set_cons_zero, List.set_cons_succ, List.cons_append, List.nil_append, List.append_nil, List.length_cons, List.length_nil, List.getD_cons_zero, List.getD_cons_succ, Nat.reduceAdd, Nat.reduceMul, Nat.zero_add, V.setAt_nil, V.setAt_st, V.setAt_arr, map_set']) <;> exact rfl)) (by first | exact trivial | exact rfl | exact ⟨rfl, rfl⟩) ?_
  refine S.new 3 rfl rfl (.nf (.box (lk 2 rfl rfl) rfl) (by (try simp only [List.set_cons_zero, List.set_cons_succ, List.cons_append, List.nil_append, List.append_nil, List.length_cons, List.length_nil, List.getD_cons_zero, List.getD_cons_succ, Nat.reduceAdd, Nat.reduceMul, Nat.zero_add, V.setAt_nil, V.setAt_st, V.setAt_arr, map_set']) <;> exact rfl) (by (try simp only [List.set_cons_zero, List.set_cons_succ, List.cons_append, List.nil_append, List.append_nil, List.length_cons, List.length_nil, List.getD_cons_zero, List.getD_cons_succ, Nat.reduceAdd, Nat.reduceMul, Nat.zero_add, V.setAt_nil, V.setAt_st, V.setAt_arr, map_set']) <;> exact rfl)) (by first | exact trivial | exact rfl | exact ⟨rfl, rfl⟩) ?_
  refine S.sil 4 rfl rfl (fun _ hF => .assign cB) ?_
  refine S.nil ?_
  refine thenQ_n ?_
  refine AWp.seq ?_
  refine AWp.seq ?_
  refine W.reg [0, 1, 2, 3, 4] rfl ?_
  first | refine S.sil 5 rfl rfl (fun _ hF => .nv (.fieldAddr lay23 rfl rfl (lk 2 rfl rfl)) (by (try simp only [List.set_cons_zero, List.set_cons_succ, List.cons_append, List.nil_append, List.append_nil, List.length_cons, List.length_nil, List.getD_cons_zero, List.getD_cons_succ, Nat.reduceAdd, Nat.reduceMul, Nat.zero_add, V.setAt_nil, V.setAt_st, V.setAt_arr, map_set']) <;> exact rfl)) ?_ | refine S.sil 5 rfl rfl (fun _ hF => .fieldAddrC lay23 rfl rfl (lk 2 rfl rfl) rfl (by first | rfl | simp)) ?_
  first | refine S.qui 6 rfl rfl (fun _ => .load sz3 ag3 (lk 0 rfl rfl) (by first | rfl | simp) rfl (by first | rfl | simp [V.offOf]) (by first | rfl | (simp; done) | (simp; omega)) (by first | rfl | simp)) ?_ | refine S.sil 6 rfl rfl (fun _ hF => .loadC sz3 ag3 (lk 0 rfl rfl) (by first | rfl | simp) (by first | rfl | simp)) ?_
  first | refine S.sil 7 rfl rfl (fun _ hF => .nv (.fieldAddr lay23 rfl rfl (lk 3 rfl rfl)) (by (try simp only [List.set_cons_zero, List.set_cons_succ, List.cons_append, List.nil_append, List.append_nil, List.length_cons, List.length_nil, List.getD_cons_zero, List.getD_cons_succ, Nat.reduceAdd, Nat.reduceMul, Nat.zero_add, V.setAt_nil, V.setAt_st, V.setAt_arr, map_set']) <;> exact rfl)) ?_ | refine S.sil 7 rfl rfl (fun _ hF => .fieldAddrC lay23 rfl rfl (lk 3 rfl rfl) rfl (by first | rfl | simp)) ?_
  first | refine S.qui 8 rfl rfl (fun _ => .load sz3 ag3 (lk 0 rfl rfl) (by first | rfl | simp) rfl (by first | rfl | simp [V.offOf]) (by first | rfl | (simp; done) | (simp; omega)) (by first | rfl | simp)) ?_ | refine S.sil 8 rfl rfl (fun _ hF => .loadC sz3 ag3 (lk 0 rfl rfl) (by first | rfl | simp) (by first | rfl | simp)) ?_
  refine S.sil 9 rfl rfl (fun _ hF => .neq (lk 2 rfl rfl) (lk 0 rfl rfl)) ?_
  refine S.nil ?_
  refine thenQ_n ?_
  refine AWp.cond (lk 0 rfl rfl) (fun c0 => ?_) (fun c0 => ?_)
  · try simp only [decide_eq_true_eq, decide_eq_false_iff_not, Bool.not_eq_true', Bool.not_eq_false', Bool.and_eq_true, Bool.or_eq_true, Bool.and_eq_false_iff, Bool.or_eq_false_iff, Bool.not_eq_true, Bool.not_eq_false, ite_eq_left_iff] at c0
    refine AWp.seq ?_
    refine W.reg [0, 1, 2, 3, 4, 5] rfl ?_
    first | refine S.sil 10 rfl rfl (fun _ hF => .nv (.fieldAddr lay23 rfl rfl (lk 7 rfl rfl)) (by (try simp only [List.set_cons_zero, List.set_cons_succ, List.cons_append, List.nil_append, List.append_nil, List.length_cons, List.length_nil, List.getD_cons_zero, List.getD_cons_succ, Nat.reduceAdd, Nat.reduceMul, Nat.zero_add, V.setAt_nil, V.setAt_st, V.setAt_arr, map_set']) <;> exact rfl)) ?_ | refine S.sil 10 rfl rfl (fun _ hF => .fieldAddrC lay23 rfl rfl (lk 7 rfl rfl) rfl (by first | rfl | simp)) ?_
    first | refine S.qui 11 rfl rfl (fun _ => .load sz3 ag3 (lk 0 rfl rfl) (by first | rfl | simp) rfl (by first | rfl | simp [V.offOf]) (by first | rfl | (simp; done) | (simp; omega)) (by first | rfl | simp)) ?_ | refine S.sil 11 rfl rfl (fun _ hF => .loadC sz3 ag3 (lk 0 rfl rfl) (by first | rfl | simp) (by first | rfl | simp)) ?_
    first | refine S.sil 12 rfl rfl (fun _ hF => .nv (.fieldAddr lay23 rfl rfl (lk 8 rfl rfl)) (by (try simp only [List.set_cons_zero, List.set_cons_succ, List.cons_append, List.nil_append, List.append_nil, List.length_cons, List.length_nil, List.getD_cons_zero, List.getD_cons_succ, Nat.reduceAdd, Nat.reduceMul, Nat.zero_add, V.setAt_nil, V.setAt_st, V.setAt_arr, map_set']) <;> exact rfl)) ?_ | refine S.sil 12 rfl rfl (fun _ hF => .fieldAddrC lay23 rfl rfl (lk 8 rfl rfl) rfl (by first | rfl | simp)) ?_
    first | refine S.qui 13 rfl rfl (fun _ => .load sz3 ag3 (lk 0 rfl rfl) (by first | rfl | simp) rfl (by first | rfl | simp [V.offOf]) (by first | rfl | (simp; done) | (simp; omega)) (by first | rfl | simp)) ?_ | refine S.sil 13 rfl rfl (fun _ hF => .loadC sz3 ag3 (lk 0 rfl rfl) (by first | rfl | simp) (by first | rfl | simp)) ?_
    refine S.sil 14 rfl rfl (fun _ hF => .gtr (lk 2 rfl rfl) (lk 0 rfl rfl)) ?_
    refine S.sil 4 rfl rfl (fun _ hF => .assign (lk 0 rfl rfl)) ?_
    refine S.nil ?_
    refine thenQ_n ?_
    refine AWp.prune (.eq (lk 0 rfl rfl) rfl (.eq (lk 12 rfl rfl) rfl (.eq (lk 13 rfl rfl) rfl .nil))) ?_
    refine AWp.ret ?_
    refine thenQ_r ?_
    refine end1 rfl (lk 0 rfl rfl) rfl (by first | rfl | simp []) ?_
    rw [behindLock, if_pos c0]
  · try simp only [decide_eq_true_eq, decide_eq_false_iff_not, Bool.not_eq_true', Bool.not_eq_false', Bool.and_eq_true, Bool.or_eq_true, Bool.and_eq_false_iff, Bool.or_eq_false_iff, Bool.not_eq_true, Bool.not_eq_false, ite_eq_left_iff] at c0
    refine AWp.skip ?_
    refine thenQ_n ?_
    refine AWp.seq ?_
    refine AWp.seq ?_
    refine W.reg [0, 1, 2, 3, 4] rfl ?_
    first | refine S.sil 15 rfl rfl (fun _ hF => .nv (.fieldAddr lay23 rfl rfl (lk 7 rfl rfl)) (by (try simp only [List.set_cons_zero, List.set_cons_succ, List.cons_append, List.nil_append, List.append_nil, List.length_cons, List.length_nil, List.getD_cons_zero, List.getD_cons_succ, Nat.reduceAdd, Nat.reduceMul, Nat.zero_add, V.setAt_nil, V.setAt_st, V.setAt_arr, map_set']) <;> exact rfl)) ?_ | refine S.sil 15 rfl rfl (fun _ hF => .fieldAddrC lay23 rfl rfl (lk 7 rfl rfl) rfl (by first | rfl | simp)) ?_
    first | refine S.qui 16 rfl rfl (fun _ => .load sz3 ag3 (lk 0 rfl rfl) (by first | rfl | simp) rfl (by first | rfl | simp [V.offOf]) (by first | rfl | (simp; done) | (simp; omega)) (by first | rfl | simp)) ?_ | refine S.sil 16 rfl rfl (fun _ hF => .loadC sz3 ag3 (lk 0 rfl rfl) (by first | rfl | simp) (by first | rfl | simp)) ?_
    first | refine S.sil 17 rfl rfl (fun _ hF => .nv (.fieldAddr lay23 rfl rfl (lk 8 rfl rfl)) (by (try simp only [List.set_cons_zero, List.set_cons_succ, List.cons_append, List.nil_append, List.append_nil, List.length_cons, List.length_nil, List.getD_cons_zero, List.getD_cons_succ, Nat.reduceAdd, Nat.reduceMul, Nat.zero_add, V.setAt_nil, V.setAt_st, V.setAt_arr, map_set']) <;> exact rfl)) ?_ | refine S.sil 17 rfl rfl (fun _ hF => .fieldAddrC lay23 rfl rfl (lk 8 rfl rfl) rfl (by first | rfl | simp)) ?_
    first | refine S.qui 18 rfl rfl (fun _ => .load sz3 ag3 (lk 0 rfl rfl) (by first | rfl | simp) rfl (by first | rfl | simp [V.offOf]) (by first | rfl | (simp; done) | (simp; omega)) (by first | rfl | simp)) ?_ | refine S.sil 18 rfl rfl (fun _ hF => .loadC sz3 ag3 (lk 0 rfl rfl) (by first | rfl | simp) (by first | rfl | simp)) ?_
    refine S.sil 19 rfl rfl (fun _ hF => .neq (lk 2 rfl rfl) (lk 0 rfl rfl)) ?_
    refine S.nil ?_
    refine thenQ_n ?_
    refine AWp.prune (.eq (lk 0 rfl rfl) rfl (.eq (lk 10 rfl rfl) rfl (.eq (lk 11 rfl rfl) rfl (.eq (lk 12 rfl rfl) rfl .nil)))) ?_
    refine AWp.cond (lk 0 rfl rfl) (fun c1 => ?_) (fun c1 => ?_)
    · try simp only [decide_eq_true_eq, decide_eq_false_iff_not, Bool.not_eq_true', Bool.not_eq_false', Bool.and_eq_true, Bool.or_eq_true, Bool.and_eq_false_iff, Bool.or_eq_false_iff, Bool.not_eq_true, Bool.not_eq_false, ite_eq_left_iff] at c1
      refine AWp.seq ?_
      refine W.reg [0, 1, 2, 3, 4, 5] rfl ?_
      first | refine S.sil 20 rfl rfl (fun _ hF => .nv (.fieldAddr lay23 rfl rfl (lk 3 rfl rfl)) (by (try simp only [List.set_cons_zero, List.set_cons_succ, List.cons_append, List.nil_append, List.append_nil, List.length_cons, List.length_nil, List.getD_cons_zero, List.getD_cons_succ, Nat.reduceAdd, Nat.reduceMul, Nat.zero_add, V.setAt_nil, V.setAt_st, V.setAt_arr, map_set']) <;> exact rfl)) ?_ | refine S.sil 20 rfl rfl (fun _ hF => .fieldAddrC lay23 rfl rfl (lk 3 rfl rfl) rfl (by first | rfl | simp)) ?_
      first | refine S.qui 21 rfl rfl (fun _ => .load sz3 ag3 (lk 0 rfl rfl) (by first | rfl | simp) rfl (by first | rfl | simp [V.offOf]) (by first | rfl | (simp; done) | (simp; omega)) (by first | rfl | simp)) ?_ | refine S.sil 21 rfl rfl (fun _ hF => .loadC sz3 ag3 (lk 0 rfl rfl) (by first | rfl | simp) (by first | rfl | simp)) ?_
      first | refine S.sil 22 rfl rfl (fun _ hF => .nv (.fieldAddr lay23 rfl rfl (lk 4 rfl rfl)) (by (try simp only [List.set_cons_zero, List.set_cons_succ, List.cons_append, List.nil_append, List.append_nil, List.length_cons, List.length_nil, List.getD_cons_zero, List.getD_cons_succ, Nat.reduceAdd, Nat.reduceMul, Nat.zero_add, V.setAt_nil, V.setAt_st, V.setAt_arr, map_set']) <;> exact rfl)) ?_ | refine S.sil 22 rfl rfl (fun _ hF => .fieldAddrC lay23 rfl rfl (lk 4 rfl rfl) rfl (by first | rfl | simp)) ?_
      first | refine S.qui 23 rfl rfl (fun _ => .load sz3 ag3 (lk 0 rfl rfl) (by first | rfl | simp) rfl (by first | rfl | simp [V.offOf]) (by first | rfl | (simp; done) | (simp; omega)) (by first | rfl | simp)) ?_ | refine S.sil 23 rfl rfl (fun _ hF => .loadC sz3 ag3 (lk 0 rfl rfl) (by first | rfl | simp) (by first | rfl | simp)) ?_
      refine S.sil 24 rfl rfl (fun _ hF => .gtr (lk 2 rfl rfl) (lk 0 rfl rfl)) ?_
      refine S.sil 4 rfl rfl (fun _ hF => .assign (lk 0 rfl rfl)) ?_
      refine S.nil ?_
      refine thenQ_n ?_
      refine AWp.ret ?_
      refine thenQ_r ?_
      refine end1 rfl (lk 0 rfl rfl) rfl (by first | rfl | simp []) ?_
      rw [behindLock, if_neg (by simpa using c0), if_pos c1]
    · try simp only [decide_eq_true_eq, decide_eq_false_iff_not, Bool.not_eq_true', Bool.not_eq_false', Bool.and_eq_true, Bool.or_eq_true, Bool.and_eq_false_iff, Bool.or_eq_false_iff, Bool.not_eq_true, Bool.not_eq_false, ite_eq_left_iff] at c1
      refine AWp.skip ?_
      refine thenQ_n ?_
      refine AWp.seq ?_
      refine AWp.seq ?_
      refine W.reg [0, 1, 2, 3, 4] rfl ?_
      first | refine S.sil 25 rfl rfl (fun _ hF => .nv (.fieldAddr lay23 rfl rfl (lk 3 rfl rfl)) (by (try simp only [List.set_cons_zero, List.set_cons_succ, List.cons_append, List.nil_append, List.append_nil, List.length_cons, List.length_nil, List.getD_cons_zero, List.getD_cons_succ, Nat.reduceAdd, Nat.reduceMul, Nat.zero_add, V.setAt_nil, V.setAt_st, V.setAt_arr, map_set']) <;> exact rfl)) ?_ | refine S.sil 25 rfl rfl (fun _ hF => .fieldAddrC lay23 rfl rfl (lk 3 rfl rfl) rfl (by first | rfl | simp)) ?_
      first | refine S.qui 26 rfl rfl (fun _ => .load sz3 ag3 (lk 0 rfl rfl) (by first | rfl | simp) rfl (by first | rfl | simp [V.offOf]) (by first | rfl | (simp; done) | (simp; omega)) (by first | rfl | simp)) ?_ | refine S.sil 26 rfl rfl (fun _ hF => .loadC sz3 ag3 (lk 0 rfl rfl) (by first | rfl | simp) (by first | rfl | simp)) ?_
      first | refine S.sil 27 rfl rfl (fun _ hF => .nv (.fieldAddr lay23 rfl rfl (lk 4 rfl rfl)) (by (try simp only [List.set_cons_zero, List.set_cons_succ, List.cons_append, List.nil_append, List.append_nil, List.length_cons, List.length_nil, List.getD_cons_zero, List.getD_cons_succ, Nat.reduceAdd, Nat.reduceMul, Nat.zero_add, V.setAt_nil, V.setAt_st, V.setAt_arr, map_set']) <;> exact rfl)) ?_ | refine S.sil 27 rfl rfl (fun _ hF => .fieldAddrC lay23 rfl rfl (lk 4 rfl rfl) rfl (by first | rfl | simp)) ?_
      first | refine S.qui 28 rfl rfl (fun _ => .load sz3 ag3 (lk 0 rfl rfl) (by first | rfl | simp) rfl (by first | rfl | simp [V.offOf]) (by first | rfl | (simp; done) | (simp; omega)) (by first | rfl | simp)) ?_ | refine S.sil 28 rfl rfl (fun _ hF => .loadC sz3 ag3 (lk 0 rfl rfl) (by first | rfl | simp) (by first | rfl | simp)) ?_
      refine S.sil 29 rfl rfl (fun _ hF => .neq (lk 2 rfl rfl) (lk 0 rfl rfl)) ?_
      refine S.nil ?_
      refine thenQ_n ?_
      refine AWp.cond (lk 0 rfl rfl) (fun c2 => ?_) (fun c2 => ?_)
      · try simp only [decide_eq_true_eq, decide_eq_false_iff_not, Bool.not_eq_true', Bool.not_eq_false', Bool.and_eq_true, Bool.or_eq_true, Bool.and_eq_false_iff, Bool.or_eq_false_iff, Bool.not_eq_true, Bool.not_eq_false, ite_eq_left_iff] at c2
        refine AWp.seq ?_
        refine W.reg [0, 1, 2, 3, 4, 5] rfl ?_
        first | refine S.sil 30 rfl rfl (fun _ hF => .nv (.fieldAddr lay23 rfl rfl (lk 8 rfl rfl)) (by (try simp only [List.set_cons_zero, List.set_cons_succ, List.cons_append, List.nil_append, List.append_nil, List.length_cons, List.length_nil, List.getD_cons_zero, List.getD_cons_succ, Nat.reduceAdd, Nat.reduceMul, Nat.zero_add, V.setAt_nil, V.setAt_st, V.setAt_arr, map_set']) <;> exact rfl)) ?_ | refine S.sil 30 rfl rfl (fun _ hF => .fieldAddrC lay23 rfl rfl (lk 8 rfl rfl) rfl (by first | rfl | simp)) ?_
        first | refine S.qui 31 rfl rfl (fun _ => .load sz3 ag3 (lk 0 rfl rfl) (by first | rfl | simp) rfl (by first | rfl | simp [V.offOf]) (by first | rfl | (simp; done) | (simp; omega)) (by first | rfl | simp)) ?_ | refine S.sil 31 rfl rfl (fun _ hF => .loadC sz3 ag3 (lk 0 rfl rfl) (by first | rfl | simp) (by first | rfl | simp)) ?_
        first | refine S.sil 32 rfl rfl (fun _ hF => .nv (.fieldAddr lay23 rfl rfl (lk 9 rfl rfl)) (by (try simp only [List.set_cons_zero, List.set_cons_succ, List.cons_append, List.nil_append, List.append_nil, List.length_cons, List.length_nil, List.getD_cons_zero, List.getD_cons_succ, Nat.reduceAdd, Nat.reduceMul, Nat.zero_add, V.setAt_nil, V.setAt_st, V.setAt_arr, map_set']) <;> exact rfl)) ?_ | refine S.sil 32 rfl rfl (fun _ hF => .fieldAddrC lay23 rfl rfl (lk 9 rfl rfl) rfl (by first | rfl | simp)) ?_
        first | refine S.qui 33 rfl rfl (fun _ => .load sz3 ag3 (lk 0 rfl rfl) (by first | rfl | simp) rfl (by first | rfl | simp [V.offOf]) (by first | rfl | (simp; done) | (simp; omega)) (by first | rfl | simp)) ?_ | refine S.sil 33 rfl rfl (fun _ hF => .loadC sz3 ag3 (lk 0 rfl rfl) (by first | rfl | simp) (by first | rfl | simp)) ?_
        refine S.sil 34 rfl rfl (fun _ hF => .gtr (lk 2 rfl rfl) (lk 0 rfl rfl)) ?_
        refine S.sil 4 rfl rfl (fun _ hF => .assign (lk 0 rfl rfl)) ?_
        refine S.nil ?_
        refine thenQ_n ?_
        refine AWp.prune (.eq (lk 0 rfl rfl) rfl (.eq (lk 13 rfl rfl) rfl (.eq (lk 14 rfl rfl) rfl .nil))) ?_
        refine AWp.ret ?_
        refine thenQ_r ?_
        refine end1 rfl (lk 0 rfl rfl) rfl (by first | rfl | simp []) ?_
        rw [behindLock, if_neg (by simpa using c0), if_neg (by simpa using c1), if_pos c2]
      · try simp only [decide_eq_true_eq, decide_eq_false_iff_not, Bool.not_eq_true', Bool.not_eq_false', Bool.and_eq_true, Bool.or_eq_true, Bool.and_eq_false_iff, Bool.or_eq_false_iff, Bool.not_eq_true, Bool.not_eq_false, ite_eq_left_iff] at c2
        refine AWp.skip ?_
        refine thenQ_n ?_
        refine AWp.seq ?_
        refine W.reg [0, 1, 2, 3, 4, 5] rfl ?_
        first | refine S.sil 35 rfl rfl (fun _ hF => .nv (.fieldAddr lay23 rfl rfl (lk 8 rfl rfl)) (by (try simp only [List.set_cons_zero, List.set_cons_succ, List.cons_append, List.nil_append, List.append_nil, List.length_cons, List.length_nil, List.getD_cons_zero, List.getD_cons_succ, Nat.reduceAdd, Nat.reduceMul, Nat.zero_add, V.setAt_nil, V.setAt_st, V.setAt_arr, map_set']) <;> exact rfl)) ?_ | refine S.sil 35 rfl rfl (fun _ hF => .fieldAddrC lay23 rfl rfl (lk 8 rfl rfl) rfl (by first | rfl | simp)) ?_
        first | refine S.qui 36 rfl rfl (fun _ => .load sz3 ag3 (lk 0 rfl rfl) (by first | rfl | simp) rfl (by first | rfl | simp [V.offOf]) (by first | rfl | (simp; done) | (simp; omega)) (by first | rfl | simp)) ?_ | refine S.sil 36 rfl rfl (fun _ hF => .loadC sz3 ag3 (lk 0 rfl rfl) (by first | rfl | simp) (by first | rfl | simp)) ?_
        first | refine S.sil 37 rfl rfl (fun _ hF => .nv (.fieldAddr lay23 rfl rfl (lk 9 rfl rfl)) (by (try simp only [List.set_cons_zero, List.set_cons_succ, List.cons_append, List.nil_append, List.append_nil, List.length_cons, List.length_nil, List.getD_cons_zero, List.getD_cons_succ, Nat.reduceAdd, Nat.reduceMul, Nat.zero_add, V.setAt_nil, V.setAt_st, V.setAt_arr, map_set']) <;> exact rfl)) ?_ | refine S.sil 37 rfl rfl (fun _ hF => .fieldAddrC lay23 rfl rfl (lk 9 rfl rfl) rfl (by first | rfl | simp)) ?_
        first | refine S.qui 38 rfl rfl (fun _ => .load sz3 ag3 (lk 0 rfl rfl) (by first | rfl | simp) rfl (by first | rfl | simp [V.offOf]) (by first | rfl | (simp; done) | (simp; omega)) (by first | rfl | simp)) ?_ | refine S.sil 38 rfl rfl (fun _ hF => .loadC sz3 ag3 (lk 0 rfl rfl) (by first | rfl | simp) (by first | rfl | simp)) ?_
        refine S.sil 39 rfl rfl (fun _ hF => .gtr (lk 2 rfl rfl) (lk 0 rfl rfl)) ?_
        refine S.sil 4 rfl rfl (fun _ hF => .assign (lk 0 rfl rfl)) ?_
        refine S.nil ?_
        refine thenQ_n ?_
        refine AWp.prune (.eq (lk 0 rfl rfl) rfl .nil) ?_
        refine AWp.ret ?_
        refine end1 rfl (lk 0 rfl rfl) rfl (by first | rfl | simp []) ?_
        rw [behindLock, if_neg (by simpa using c0), if_neg (by simpa using c1), if_neg (by simpa using c2)]

theorem rJoin_ok (a b : Lock) : PureC Pg 12 [encLock a, encLock b] (encLock (if behindLock b a = true then b else a)) := by
  refine PureC.of (CallSpec.of_body 10 0 Try.func12 rfl rfl rfl (by simp) ?_) (by simp []) (by simp [])
  refine AWp.seq ?_
  refine W.reg [0, 1, 2] rfl ?_
  refine S.new 2 rfl rfl (.nf (.box (lk 0 rfl rfl) rfl) (by (try simp only [List.set_cons_zero, List.set_cons_succ, List.cons_append, List.nil_append, List.append_nil, List.length_cons, List.length_nil, List.getD_cons_zero, List.getD_cons_succ, Nat.reduceAdd, Nat.reduceMul, Nat.zero_add, V.setAt_nil, V.setAt_st, V.setAt_arr, map_set']) <;> exact rfl) (by (try simp only [List.set_cons_zero, List.set_cons_succ, List.cons_append, List.nil_append, List.append_nil, List.length_cons, List.length_nil, List.getD_cons_zero, List.getD_cons_succ, Nat.reduceAdd, Nat.reduceMul, Nat.zero_add, V.setAt_nil, V.setAt_st, V.setAt_arr, map_set']) <;> exact rfl)) (by first | exact trivial | exact rfl | exact ⟨rfl, rfl⟩) ?_
  refine S.new 3 rfl rfl (.nf (.box (lk 2 rfl rfl) rfl) (by (try simp only [List.set_cons_zero, List.set_cons_succ, List.cons_append, List.nil_append, List.append_nil, List.length_cons, List.length_nil, List.getD_cons_zero, List.getD_cons_succ, Nat.reduceAdd, Nat.reduceMul, Nat.zero_add, V.setAt_nil, V.setAt_st, V.setAt_arr, map_set']) <;> exact rfl) (by (try simp only [List.set_cons_zero, List.set_cons_succ, List.cons_append, List.nil_append, List.append_nil, List.length_cons, List.length_nil, List.getD_cons_zero, List.getD_cons_succ, Nat.reduceAdd, Nat.reduceMul, Nat.zero_add, V.setAt_nil, V.setAt_st, V.setAt_arr, map_set']) <;> exact rfl)) (by first | exact trivial | exact rfl | exact ⟨rfl, rfl⟩) ?_
  refine S.new 4 rfl rfl (.nf (.alloc zv23) (by (try simp only [List.set_cons_zero, List.set_cons_succ, List.cons_append, List.nil_append, List.append_nil, List.length_cons, List.length_nil, List.getD_cons_zero, List.getD_cons_succ, Nat.reduceAdd, Nat.reduceMul, Nat.zero_add, V.setAt_nil, V.setAt_st, V.setAt_arr, map_set']) <;> exact rfl) (by (try simp only [List.set_cons_zero, List.set_cons_succ, List.cons_append, List.nil_append, List.append_nil, List.length_cons, List.length_nil, List.getD_cons_zero, List.getD_cons_succ, Nat.reduceAdd, Nat.reduceMul, Nat.zero_add, V.setAt_nil, V.setAt_st, V.setAt_arr, map_set']) <;> exact rfl)) (by first | exact trivial | exact rfl | exact ⟨rfl, rfl⟩) ?_
  refine S.nil ?_
  refine thenQ_n ?_
  refine AWp.seq ?_
  refine AWp.seq ?_
  refine W.reg [0, 1, 2] rfl ?_
  first | refine S.qui 5 rfl rfl (fun _ => .load sz23 ag23 (lk 1 rfl rfl) (by first | rfl | simp) rfl (by first | rfl | simp [V.offOf]) (by first | rfl | (simp; done) | (simp; omega)) (by first | rfl | simp)) ?_ | refine S.sil 5 rfl rfl (fun _ hF => .loadC sz23 ag23 (lk 1 rfl rfl) (by first | rfl | simp) (by first | rfl | simp)) ?_
  first | refine S.qui 6 rfl rfl (fun _ => .load sz23 ag23 (lk 3 rfl rfl) (by first | rfl | simp) rfl (by first | rfl | simp [V.offOf]) (by first | rfl | (simp; done) | (simp; omega)) (by first | rfl | simp)) ?_ | refine S.sil 6 rfl rfl (fun _ hF => .loadC sz23 ag23 (lk 3 rfl rfl) (by first | rfl | simp) (by first | rfl | simp)) ?_
  refine S.sil 7 rfl rfl (fun _ hF => .callQ ent13 cF (.c (lk 1 rfl rfl) (by first | exact V.sub.refl _ | exact V.sub.forget _ _ _ | exact V.sub.nils_no _ | exact V.sub.nils _) (.c (lk 0 rfl rfl) (by first | exact V.sub.refl _ | exact V.sub.forget _ _ _ | exact V.sub.nils_no _ | exact V.sub.nils _) .nil)) (rBehind_ok _ _)) ?_
  refine S.nil ?_
  refine thenQ_n ?_
  refine AWp.cond (lk 0 rfl rfl) (fun c0 => ?_) (fun c0 => ?_)
  · try simp only [decide_eq_true_eq, decide_eq_false_iff_not, Bool.not_eq_true', Bool.not_eq_false', Bool.and_eq_true, Bool.or_eq_true, Bool.and_eq_false_iff, Bool.or_eq_false_iff, Bool.not_eq_true, Bool.not_eq_false, ite_eq_left_iff] at c0
    refine AWp.seq ?_
    refine W.reg [0, 1] rfl ?_
    first | refine S.qui 8 rfl rfl (fun _ => .load sz23 ag23 (lk 4 rfl rfl) (by first | rfl | simp) rfl (by first | rfl | simp [V.offOf]) (by first | rfl | (simp; done) | (simp; omega)) (by first | rfl | simp)) ?_ | refine S.sil 8 rfl rfl (fun _ hF => .loadC sz23 ag23 (lk 4 rfl rfl) (by first | rfl | simp) (by first | rfl | simp)) ?_
    refine S.effN rfl rfl (.nf (.store sz23 (lk 4 rfl rfl) (lk 0 rfl rfl) rfl (by first | rfl | simp) rfl (by first | rfl | simp [V.offOf]) (by first | rfl | simp) (by first | rfl | simp)) (by (try simp only [List.set_cons_zero, List.set_cons_succ, List.cons_append, List.nil_append, List.append_nil, List.length_cons, List.length_nil, List.getD_cons_zero, List.getD_cons_succ, Nat.reduceAdd, Nat.reduceMul, Nat.zero_add, V.setAt_nil, V.setAt_st, V.setAt_arr, map_set']) <;> exact rfl) (by (try simp only [List.set_cons_zero, List.set_cons_succ, List.cons_append, List.nil_append, List.append_nil, List.length_cons, List.length_nil, List.getD_cons_zero, List.getD_cons_succ, Nat.reduceAdd, Nat.reduceMul, Nat.zero_add, V.setAt_nil, V.setAt_st, V.setAt_arr, map_set']) <;> exact rfl)) (by first | exact trivial | exact rfl | exact ⟨rfl, rfl⟩) ?_
    refine S.nil ?_
    refine thenQ_n ?_
    refine AWp.ret ?_
    refine thenQ_r ?_
    refine end1c rfl (.cell sz23 ag23 (lk 4 rfl rfl) (by first | rfl | simp) rfl rfl (by first | rfl | simp) (by first | rfl | simp)) (by first | rfl | simp []) ?_
    rw [if_pos c0]
  · try simp only [decide_eq_true_eq, decide_eq_false_iff_not, Bool.not_eq_true', Bool.not_eq_false', Bool.and_eq_true, Bool.or_eq_true, Bool.and_eq_false_iff, Bool.or_eq_false_iff, Bool.not_eq_true, Bool.not_eq_false, ite_eq_left_iff] at c0
    refine AWp.skip ?_
    refine thenQ_n ?_
    refine AWp.seq ?_
    refine W.reg [0, 1] rfl ?_
    first | refine S.qui 9 rfl rfl (fun _ => .load sz23 ag23 (lk 5 rfl rfl) (by first | rfl | simp) rfl (by first | rfl | simp [V.offOf]) (by first | rfl | (simp; done) | (simp; omega)) (by first | rfl | simp)) ?_ | refine S.sil 9 rfl rfl (fun _ hF => .loadC sz23 ag23 (lk 5 rfl rfl) (by first | rfl | simp) (by first | rfl | simp)) ?_
    refine S.effN rfl rfl (.nf (.store sz23 (lk 4 rfl rfl) (lk 0 rfl rfl) rfl (by first | rfl | simp) rfl (by first | rfl | simp [V.offOf]) (by first | rfl | simp) (by first | rfl | simp)) (by (try simp only [List.set_cons_zero, List.set_cons_succ, List.cons_append, List.nil_append, List.append_nil, List.length_cons, List.length_nil, List.getD_cons_zero, List.getD_cons_succ, Nat.reduceAdd, Nat.reduceMul, Nat.zero_add, V.setAt_nil, V.setAt_st, V.setAt_arr, map_set']) <;> exact rfl) (by (try simp only [List.set_cons_zero, List.set_cons_succ, List.cons_append, List.nil_append, List.append_nil, List.length_cons, List.length_nil, List.getD_cons_zero, List.getD_cons_succ, Nat.reduceAdd, Nat.reduceMul, Nat.zero_add, V.setAt_nil, V.setAt_st, V.setAt_arr, map_set']) <;> exact rfl)) (by first | exact trivial | exact rfl | exact ⟨rfl, rfl⟩) ?_
    refine S.nil ?_
    refine thenQ_n ?_
    refine AWp.ret ?_
    refine end1c rfl (.cell sz23 ag23 (lk 4 rfl rfl) (by first | rfl | simp) rfl rfl (by first | rfl | simp) (by first | rfl | simp)) (by first | rfl | simp []) ?_
    rw [if_neg (by simpa using c0)]

end Go.Av
