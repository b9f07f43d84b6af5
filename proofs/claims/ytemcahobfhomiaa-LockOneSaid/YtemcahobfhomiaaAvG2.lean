/- Functions that the statements of this seat reach, each with what it answers. -/
import Derived.Test.YtemcahobfhomiaaProg
import Derived.KernelRfl
import Derived.Test.YtemcahobfhomiaaAvG1
import Derived.Test.YtemcahobfhomiaaAvLLock
namespace Go.Av
open Go.Proofs
set_option linter.unusedVariables false
set_option linter.unusedSimpArgs false
set_option maxHeartbeats 4000000
theorem sz4 : szOf Pg 4 = some 1 := by kernel_rfl
theorem ag4 : aggOf Pg 4 = some false := by kernel_rfl
theorem und4 : Pg.underlying 4 = some .bool := by kernel_rfl
theorem zv4 : ZeroV Pg 4 (.bool false) := ⟨((Pg.info? 4).bind (·.zero)).getD .nilFunc, (by kernel_rfl), (by kernel_rfl), (by kernel_rfl)⟩
theorem eqt23 : EqT Pg 23 (.st [(0, .int .i64), (1, .int .i64), (2, .int .i64), (3, .int .i64)] 4) := ⟨by kernel_rfl, by kernel_rfl⟩
theorem ent10 : enters Pg 10 = true := by kernel_rfl
theorem ent11 : enters Pg 11 = true := by kernel_rfl
theorem ent12 : enters Pg 12 = true := by kernel_rfl
theorem ent14 : enters Pg 14 = true := by kernel_rfl
theorem ent15 : enters Pg 15 = true := by kernel_rfl
theorem ent16 : enters Pg 16 = true := by kernel_rfl
theorem ent17 : enters Pg 17 = true := by kernel_rfl

theorem awake_ok : PureC Pg 10 [] (.bool true) := by
  refine PureC.of (CallSpec.of_body 57 0 Try.func10 rfl rfl rfl (by simp) ?_) (by simp []) (by simp [])
  refine AWp.seq ?_
  refine W.reg [0] rfl ?_
  refine S.sil 0 rfl rfl (fun _ hF => .assign cB) ?_
  refine S.nil ?_
  refine thenQ_n ?_
  refine AWp.seq ?_
  refine W.reg [0, 1, 2, 3, 4, 5, 6] rfl ?_
  refine S.sil 10 rfl rfl (fun _ hF => .callQ ent14 cF (.c cI (by first | exact V.sub.refl _ | exact V.sub.forget _ _ _ | exact V.sub.nils_no _ | exact V.sub.nils _) (.c cI (by first | exact V.sub.refl _ | exact V.sub.forget _ _ _ | exact V.sub.nils_no _ | exact V.sub.nils _) .nil)) (New_ok _ _)) ?_
  refine S.sil 9 rfl rfl (fun _ hF => .move (lk 0 rfl rfl)) ?_
  refine S.sil 11 rfl rfl (fun _ hF => .extract (lk 0 rfl rfl) rfl) ?_
  refine S.sil 12 rfl rfl (fun _ hF => .extract (lk 1 rfl rfl) rfl) ?_
  refine S.new 1 rfl rfl (.nf (.alloc zv23) (by (try simp only [List.set_cons_zero, List.set_cons_succ, List.cons_append, List.nil_append, List.append_nil, List.length_cons, List.length_nil, List.getD_cons_zero, List.getD_cons_succ, Nat.reduceAdd, Nat.reduceMul, Nat.zero_add, V.setAt_nil, V.setAt_st, V.setAt_arr, map_set']) <;> exact rfl) (by (try simp only [List.set_cons_zero, List.set_cons_succ, List.cons_append, List.nil_append, List.append_nil, List.length_cons, List.length_nil, List.getD_cons_zero, List.getD_cons_succ, Nat.reduceAdd, Nat.reduceMul, Nat.zero_add, V.setAt_nil, V.setAt_st, V.setAt_arr, map_set']) <;> exact rfl)) (by first | exact trivial | exact rfl | exact ⟨rfl, rfl⟩) ?_
  refine S.effN rfl rfl (.nf (.store sz23 (lk 0 rfl rfl) (lk 2 rfl rfl) rfl (by first | rfl | simp) rfl (by first | rfl | simp [V.offOf]) (by first | rfl | simp) (by first | rfl | simp)) (by (try simp only [List.set_cons_zero, List.set_cons_succ, List.cons_append, List.nil_append, List.append_nil, List.length_cons, List.length_nil, List.getD_cons_zero, List.getD_cons_succ, Nat.reduceAdd, Nat.reduceMul, Nat.zero_add, V.setAt_nil, V.setAt_st, V.setAt_arr, map_set']) <;> exact rfl) (by (try simp only [List.set_cons_zero, List.set_cons_succ, List.cons_append, List.nil_append, List.append_nil, List.length_cons, List.length_nil, List.getD_cons_zero, List.getD_cons_succ, Nat.reduceAdd, Nat.reduceMul, Nat.zero_add, V.setAt_nil, V.setAt_st, V.setAt_arr, map_set']) <;> exact rfl)) (by first | exact trivial | exact rfl | exact ⟨rfl, rfl⟩) ?_
  refine S.sil 2 rfl rfl (fun _ hF => .assign (lk 1 rfl rfl)) ?_
  refine S.nil ?_
  refine thenQ_n ?_
  refine AWp.seq ?_
  refine W.reg [0, 1, 2, 3, 4, 5, 6, 7] rfl ?_
  first | refine S.qui 14 rfl rfl (fun _ => .load sz23 ag23 (lk 1 rfl rfl) (by first | rfl | simp) rfl (by first | rfl | simp [V.offOf]) (by first | rfl | (simp; done) | (simp; omega)) (by first | rfl | simp)) ?_ | refine S.sil 14 rfl rfl (fun _ hF => .loadC sz23 ag23 (lk 1 rfl rfl) (by first | rfl | simp) (by first | rfl | simp)) ?_
  refine S.sil 15 rfl rfl (fun _ hF => .callQ ent15 cF (.c (lk 0 rfl rfl) (by first | exact V.sub.refl _ | exact V.sub.forget _ _ _ | exact V.sub.nils_no _ | exact V.sub.nils _) (.c cI (by first | exact V.sub.refl _ | exact V.sub.forget _ _ _ | exact V.sub.nils_no _ | exact V.sub.nils _) (.c cI (by first | exact V.sub.refl _ | exact V.sub.forget _ _ _ | exact V.sub.nils_no _ | exact V.sub.nils _) .nil))) (Write_ok _ _ _)) ?_
  refine S.sil 13 rfl rfl (fun _ hF => .move (lk 0 rfl rfl)) ?_
  refine S.sil 16 rfl rfl (fun _ hF => .extract (lk 0 rfl rfl) rfl) ?_
  refine S.sil 17 rfl rfl (fun _ hF => .extract (lk 1 rfl rfl) rfl) ?_
  refine S.new 3 rfl rfl (.nf (.alloc zv23) (by (try simp only [List.set_cons_zero, List.set_cons_succ, List.cons_append, List.nil_append, List.append_nil, List.length_cons, List.length_nil, List.getD_cons_zero, List.getD_cons_succ, Nat.reduceAdd, Nat.reduceMul, Nat.zero_add, V.setAt_nil, V.setAt_st, V.setAt_arr, map_set']) <;> exact rfl) (by (try simp only [List.set_cons_zero, List.set_cons_succ, List.cons_append, List.nil_append, List.append_nil, List.length_cons, List.length_nil, List.getD_cons_zero, List.getD_cons_succ, Nat.reduceAdd, Nat.reduceMul, Nat.zero_add, V.setAt_nil, V.setAt_st, V.setAt_arr, map_set']) <;> exact rfl)) (by first | exact trivial | exact rfl | exact ⟨rfl, rfl⟩) ?_
  refine S.effN rfl rfl (.nf (.store sz23 (lk 0 rfl rfl) (lk 2 rfl rfl) rfl (by first | rfl | simp) rfl (by first | rfl | simp [V.offOf]) (by first | rfl | simp) (by first | rfl | simp)) (by (try simp only [List.set_cons_zero, List.set_cons_succ, List.cons_append, List.nil_append, List.append_nil, List.length_cons, List.length_nil, List.getD_cons_zero, List.getD_cons_succ, Nat.reduceAdd, Nat.reduceMul, Nat.zero_add, V.setAt_nil, V.setAt_st, V.setAt_arr, map_set']) <;> exact rfl) (by (try simp only [List.set_cons_zero, List.set_cons_succ, List.cons_append, List.nil_append, List.append_nil, List.length_cons, List.length_nil, List.getD_cons_zero, List.getD_cons_succ, Nat.reduceAdd, Nat.reduceMul, Nat.zero_add, V.setAt_nil, V.setAt_st, V.setAt_arr, map_set']) <;> exact rfl)) (by first | exact trivial | exact rfl | exact ⟨rfl, rfl⟩) ?_
  refine S.sil 4 rfl rfl (fun _ hF => .assign (lk 1 rfl rfl)) ?_
  refine S.nil ?_
  refine thenQ_n ?_
  refine AWp.prune (.eq (lk 0 rfl rfl) rfl (.eq (lk 7 rfl rfl) rfl (.eq (lk 8 rfl rfl) rfl (.eq (lk 13 rfl rfl) rfl .nil)))) ?_
  refine AWp.seq ?_
  refine W.reg [0, 1, 2, 3, 4, 5, 6, 7] rfl ?_
  first | refine S.qui 19 rfl rfl (fun _ => .load sz23 ag23 (lk 2 rfl rfl) (by first | rfl | simp) rfl (by first | rfl | simp [V.offOf]) (by first | rfl | (simp; done) | (simp; omega)) (by first | rfl | simp)) ?_ | refine S.sil 19 rfl rfl (fun _ hF => .loadC sz23 ag23 (lk 2 rfl rfl) (by first | rfl | simp) (by first | rfl | simp)) ?_
  refine S.sil 20 rfl rfl (fun _ hF => .callQ ent15 cF (.c (lk 0 rfl rfl) (by first | exact V.sub.refl _ | exact V.sub.forget _ _ _ | exact V.sub.nils_no _ | exact V.sub.nils _) (.c cI (by first | exact V.sub.refl _ | exact V.sub.forget _ _ _ | exact V.sub.nils_no _ | exact V.sub.nils _) (.c cI (by first | exact V.sub.refl _ | exact V.sub.forget _ _ _ | exact V.sub.nils_no _ | exact V.sub.nils _) .nil))) (Write_ok _ _ _)) ?_
  refine S.sil 18 rfl rfl (fun _ hF => .move (lk 0 rfl rfl)) ?_
  refine S.sil 21 rfl rfl (fun _ hF => .extract (lk 0 rfl rfl) rfl) ?_
  refine S.sil 22 rfl rfl (fun _ hF => .extract (lk 1 rfl rfl) rfl) ?_
  refine S.new 5 rfl rfl (.nf (.alloc zv23) (by (try simp only [List.set_cons_zero, List.set_cons_succ, List.cons_append, List.nil_append, List.append_nil, List.length_cons, List.length_nil, List.getD_cons_zero, List.getD_cons_succ, Nat.reduceAdd, Nat.reduceMul, Nat.zero_add, V.setAt_nil, V.setAt_st, V.setAt_arr, map_set']) <;> exact rfl) (by (try simp only [List.set_cons_zero, List.set_cons_succ, List.cons_append, List.nil_append, List.append_nil, List.length_cons, List.length_nil, List.getD_cons_zero, List.getD_cons_succ, Nat.reduceAdd, Nat.reduceMul, Nat.zero_add, V.setAt_nil, V.setAt_st, V.setAt_arr, map_set']) <;> exact rfl)) (by first | exact trivial | exact rfl | exact ⟨rfl, rfl⟩) ?_
  refine S.effN rfl rfl (.nf (.store sz23 (lk 0 rfl rfl) (lk 2 rfl rfl) rfl (by first | rfl | simp) rfl (by first | rfl | simp [V.offOf]) (by first | rfl | simp) (by first | rfl | simp)) (by (try simp only [List.set_cons_zero, List.set_cons_succ, List.cons_append, List.nil_append, List.append_nil, List.length_cons, List.length_nil, List.getD_cons_zero, List.getD_cons_succ, Nat.reduceAdd, Nat.reduceMul, Nat.zero_add, V.setAt_nil, V.setAt_st, V.setAt_arr, map_set']) <;> exact rfl) (by (try simp only [List.set_cons_zero, List.set_cons_succ, List.cons_append, List.nil_append, List.append_nil, List.length_cons, List.length_nil, List.getD_cons_zero, List.getD_cons_succ, Nat.reduceAdd, Nat.reduceMul, Nat.zero_add, V.setAt_nil, V.setAt_st, V.setAt_arr, map_set']) <;> exact rfl)) (by first | exact trivial | exact rfl | exact ⟨rfl, rfl⟩) ?_
  refine S.sil 6 rfl rfl (fun _ hF => .assign (lk 1 rfl rfl)) ?_
  refine S.nil ?_
  refine thenQ_n ?_
  refine AWp.seq ?_
  refine W.reg [0, 1, 2, 3, 4, 5, 6, 7] rfl ?_
  first | refine S.qui 24 rfl rfl (fun _ => .load sz23 ag23 (lk 1 rfl rfl) (by first | rfl | simp) rfl (by first | rfl | simp [V.offOf]) (by first | rfl | (simp; done) | (simp; omega)) (by first | rfl | simp)) ?_ | refine S.sil 24 rfl rfl (fun _ hF => .loadC sz23 ag23 (lk 1 rfl rfl) (by first | rfl | simp) (by first | rfl | simp)) ?_
  refine S.sil 25 rfl rfl (fun _ hF => .callQ ent16 cF (.c (lk 0 rfl rfl) (by first | exact V.sub.refl _ | exact V.sub.forget _ _ _ | exact V.sub.nils_no _ | exact V.sub.nils _) (.c cI (by first | exact V.sub.refl _ | exact V.sub.forget _ _ _ | exact V.sub.nils_no _ | exact V.sub.nils _) (.c cI (by first | exact V.sub.refl _ | exact V.sub.forget _ _ _ | exact V.sub.nils_no _ | exact V.sub.nils _) .nil))) (Pass_ok _ _ _)) ?_
  refine S.sil 23 rfl rfl (fun _ hF => .move (lk 0 rfl rfl)) ?_
  refine S.sil 26 rfl rfl (fun _ hF => .extract (lk 0 rfl rfl) rfl) ?_
  refine S.sil 27 rfl rfl (fun _ hF => .extract (lk 1 rfl rfl) rfl) ?_
  refine S.new 7 rfl rfl (.nf (.alloc zv23) (by (try simp only [List.set_cons_zero, List.set_cons_succ, List.cons_append, List.nil_append, List.append_nil, List.length_cons, List.length_nil, List.getD_cons_zero, List.getD_cons_succ, Nat.reduceAdd, Nat.reduceMul, Nat.zero_add, V.setAt_nil, V.setAt_st, V.setAt_arr, map_set']) <;> exact rfl) (by (try simp only [List.set_cons_zero, List.set_cons_succ, List.cons_append, List.nil_append, List.append_nil, List.length_cons, List.length_nil, List.getD_cons_zero, List.getD_cons_succ, Nat.reduceAdd, Nat.reduceMul, Nat.zero_add, V.setAt_nil, V.setAt_st, V.setAt_arr, map_set']) <;> exact rfl)) (by first | exact trivial | exact rfl | exact ⟨rfl, rfl⟩) ?_
  refine S.effN rfl rfl (.nf (.store sz23 (lk 0 rfl rfl) (lk 2 rfl rfl) rfl (by first | rfl | simp) rfl (by first | rfl | simp [V.offOf]) (by first | rfl | simp) (by first | rfl | simp)) (by (try simp only [List.set_cons_zero, List.set_cons_succ, List.cons_append, List.nil_append, List.append_nil, List.length_cons, List.length_nil, List.getD_cons_zero, List.getD_cons_succ, Nat.reduceAdd, Nat.reduceMul, Nat.zero_add, V.setAt_nil, V.setAt_st, V.setAt_arr, map_set']) <;> exact rfl) (by (try simp only [List.set_cons_zero, List.set_cons_succ, List.cons_append, List.nil_append, List.append_nil, List.length_cons, List.length_nil, List.getD_cons_zero, List.getD_cons_succ, Nat.reduceAdd, Nat.reduceMul, Nat.zero_add, V.setAt_nil, V.setAt_st, V.setAt_arr, map_set']) <;> exact rfl)) (by first | exact trivial | exact rfl | exact ⟨rfl, rfl⟩) ?_
  refine S.sil 8 rfl rfl (fun _ hF => .assign (lk 1 rfl rfl)) ?_
  refine S.nil ?_
  refine thenQ_n ?_
  refine AWp.prune (.eq (lk 0 rfl rfl) rfl (.eq (lk 1 rfl rfl) rfl (.eq (lk 7 rfl rfl) rfl (.eq (lk 8 rfl rfl) rfl (.eq (lk 14 rfl rfl) rfl (.eq (lk 15 rfl rfl) rfl (.eq (lk 17 rfl rfl) rfl .nil))))))) ?_
  refine AWp.seq ?_
  refine W.reg [0, 1, 2, 3, 4, 5, 6, 7, 8, 9, 10, 11, 12, 13, 14, 15, 16, 17, 18, 19, 20, 21, 22, 23, 24, 25, 26, 27, 28, 29] rfl ?_
  refine S.sil 28 rfl rfl (fun _ hF => .move (lk 5 rfl rfl)) ?_
  refine S.sil 29 rfl rfl (fun _ hF => .eql (lk 0 rfl rfl) cI) ?_
  refine S.sil 30 rfl rfl (fun _ hF => .move (lk 0 rfl rfl)) ?_
  refine S.gsil 31 2 30 true rfl rfl rfl (lk 0 rfl rfl) (fun hB _ hF => .move (lk 7 rfl rfl)) ?_
  refine S.gsil 32 2 30 true rfl rfl rfl (lk 1 rfl rfl) (fun hB _ hF => .eql (ifT hB (lk 0 rfl rfl)) cI) ?_
  refine S.sil 33 rfl rfl (fun _ hF => .pickAnd (lk 2 rfl rfl) (fun h => ifT h (lk 0 rfl rfl)) cB) ?_
  refine S.sil 34 rfl rfl (fun _ hF => .move (lk 0 rfl rfl)) ?_
  refine S.gsil 35 6 34 true rfl rfl rfl (lk 0 rfl rfl) (fun hB _ hF => .move (lk 9 rfl rfl)) ?_
  refine S.gsil 36 6 34 true rfl rfl rfl (lk 1 rfl rfl) (fun hB _ hF => .eql (ifT hB (lk 0 rfl rfl)) cI) ?_
  refine S.sil 37 rfl rfl (fun _ hF => .pickAnd (lk 2 rfl rfl) (fun h => ifT h (lk 0 rfl rfl)) cB) ?_
  refine S.sil 38 rfl rfl (fun _ hF => .move (lk 0 rfl rfl)) ?_
  first | refine S.gsil 39 10 38 true rfl rfl rfl (lk 0 rfl rfl) (fun hB _ hF => .nv (.fieldAddr lay23 rfl rfl (lk 14 rfl rfl)) (by (try simp only [List.set_cons_zero, List.set_cons_succ, List.cons_append, List.nil_append, List.append_nil, List.length_cons, List.length_nil, List.getD_cons_zero, List.getD_cons_succ, Nat.reduceAdd, Nat.reduceMul, Nat.zero_add, V.setAt_nil, V.setAt_st, V.setAt_arr, map_set']) <;> exact rfl)) ?_ | refine S.gsil 39 10 38 true rfl rfl rfl (lk 0 rfl rfl) (fun hB _ hF => .fieldAddrC lay23 rfl rfl (lk 14 rfl rfl) rfl (by first | rfl | simp)) ?_
  first | refine S.gqui 40 10 38 true rfl rfl rfl (lk 1 rfl rfl) (fun hB _ => .load sz3 ag3 (ifT hB (lk 0 rfl rfl)) (by first | rfl | simp) rfl (by first | rfl | simp [V.offOf]) (by first | rfl | (simp; done) | (simp; omega)) (by first | rfl | simp)) ?_ | refine S.gsil 40 10 38 true rfl rfl rfl (lk 1 rfl rfl) (fun hB _ hF => .loadC sz3 ag3 (ifT hB (lk 0 rfl rfl)) (by first | rfl | simp) (by first | rfl | simp)) ?_
  refine S.gsil 41 10 38 true rfl rfl rfl (lk 2 rfl rfl) (fun hB _ hF => .eql (ifT hB (lk 0 rfl rfl)) cI) ?_
  refine S.sil 42 rfl rfl (fun _ hF => .pickAnd (lk 3 rfl rfl) (fun h => ifT h (lk 0 rfl rfl)) cB) ?_
  refine S.sil 43 rfl rfl (fun _ hF => .move (lk 0 rfl rfl)) ?_
  first | refine S.gsil 44 15 43 true rfl rfl rfl (lk 0 rfl rfl) (fun hB _ hF => .nv (.fieldAddr lay23 rfl rfl (lk 19 rfl rfl)) (by (try simp only [List.set_cons_zero, List.set_cons_succ, List.cons_append, List.nil_append, List.append_nil, List.length_cons, List.length_nil, List.getD_cons_zero, List.getD_cons_succ, Nat.reduceAdd, Nat.reduceMul, Nat.zero_add, V.setAt_nil, V.setAt_st, V.setAt_arr, map_set']) <;> exact rfl)) ?_ | refine S.gsil 44 15 43 true rfl rfl rfl (lk 0 rfl rfl) (fun hB _ hF => .fieldAddrC lay23 rfl rfl (lk 19 rfl rfl) rfl (by first | rfl | simp)) ?_
  first | refine S.gqui 45 15 43 true rfl rfl rfl (lk 1 rfl rfl) (fun hB _ => .load sz3 ag3 (ifT hB (lk 0 rfl rfl)) (by first | rfl | simp) rfl (by first | rfl | simp [V.offOf]) (by first | rfl | (simp; done) | (simp; omega)) (by first | rfl | simp)) ?_ | refine S.gsil 45 15 43 true rfl rfl rfl (lk 1 rfl rfl) (fun hB _ hF => .loadC sz3 ag3 (ifT hB (lk 0 rfl rfl)) (by first | rfl | simp) (by first | rfl | simp)) ?_
  refine S.gsil 46 15 43 true rfl rfl rfl (lk 2 rfl rfl) (fun hB _ hF => .eql (ifT hB (lk 0 rfl rfl)) cI) ?_
  refine S.sil 47 rfl rfl (fun _ hF => .pickAnd (lk 3 rfl rfl) (fun h => ifT h (lk 0 rfl rfl)) cB) ?_
  refine S.sil 48 rfl rfl (fun _ hF => .move (lk 0 rfl rfl)) ?_
  refine S.gsil 49 20 48 true rfl rfl rfl (lk 0 rfl rfl) (fun hB _ hF => .move (lk 21 rfl rfl)) ?_
  refine S.gsil 50 20 48 true rfl rfl rfl (lk 1 rfl rfl) (fun hB _ hF => .eql (ifT hB (lk 0 rfl rfl)) cI) ?_
  refine S.sil 51 rfl rfl (fun _ hF => .pickAnd (lk 2 rfl rfl) (fun h => ifT h (lk 0 rfl rfl)) cB) ?_
  refine S.sil 52 rfl rfl (fun _ hF => .move (lk 0 rfl rfl)) ?_
  first | refine S.gqui 53 24 52 true rfl rfl rfl (lk 0 rfl rfl) (fun hB _ => .load sz23 ag23 (lk 26 rfl rfl) (by first | rfl | simp) rfl (by first | rfl | simp [V.offOf]) (by first | rfl | (simp; done) | (simp; omega)) (by first | rfl | simp)) ?_ | refine S.gsil 53 24 52 true rfl rfl rfl (lk 0 rfl rfl) (fun hB _ hF => .loadC sz23 ag23 (lk 26 rfl rfl) (by first | rfl | simp) (by first | rfl | simp)) ?_
  refine S.gsil 54 24 52 true rfl rfl rfl (lk 1 rfl rfl) (fun hB _ hF => .buildStL lay23 zv23 (.cons cI rfl (by first | rfl | simp) (by first | rfl | simp) (.cons cI rfl (by first | rfl | simp) (by first | rfl | simp) (.cons cI rfl (by first | rfl | simp) (by first | rfl | simp) .nil))) rfl rfl) ?_
  refine S.gsil 55 24 52 true rfl rfl rfl (lk 2 rfl rfl) (fun hB _ hF => .eqlV eqt23 (ifT hB (lk 1 rfl rfl)) (ifT hB (lk 0 rfl rfl)) (by first | rfl | simp) (by first | rfl | simp) rfl rfl) ?_
  refine S.sil 56 rfl rfl (fun _ hF => .pickAnd (lk 3 rfl rfl) (fun h => ifT h (lk 0 rfl rfl)) cB) ?_
  refine S.sil 0 rfl rfl (fun _ hF => .assign (lk 0 rfl rfl)) ?_
  refine S.nil ?_
  refine thenQ_n ?_
  refine AWp.prune (.eq (lk 0 rfl rfl) rfl .nil) ?_
  refine AWp.ret ?_
  refine end1 rfl (lk 0 rfl rfl) rfl (by first | rfl | simp []) ?_
  exact congrArg V.bool (by decide)

theorem LockLine_ok (a b c : Lock) : PureC Pg 3 [encLock a, encLock b, encLock c] (.bool true) := by
  refine PureC.of (CallSpec.of_body 60 0 Try.func3 rfl rfl rfl (by simp) ?_) (by simp []) (by simp [])
  refine AWp.seq ?_
  refine W.reg [0, 1, 2, 3] rfl ?_
  refine S.new 3 rfl rfl (.nf (.box (lk 0 rfl rfl) rfl) (by (try simp only [List.set_cons_zero, List.set_cons_succ, List.cons_append, List.nil_append, List.append_nil, List.length_cons, List.length_nil, List.getD_cons_zero, List.getD_cons_succ, Nat.reduceAdd, Nat.reduceMul, Nat.zero_add, V.setAt_nil, V.setAt_st, V.setAt_arr, map_set']) <;> exact rfl) (by (try simp only [List.set_cons_zero, List.set_cons_succ, List.cons_append, List.nil_append, List.append_nil, List.length_cons, List.length_nil, List.getD_cons_zero, List.getD_cons_succ, Nat.reduceAdd, Nat.reduceMul, Nat.zero_add, V.setAt_nil, V.setAt_st, V.setAt_arr, map_set']) <;> exact rfl)) (by first | exact trivial | exact rfl | exact ⟨rfl, rfl⟩) ?_
  refine S.new 4 rfl rfl (.nf (.box (lk 2 rfl rfl) rfl) (by (try simp only [List.set_cons_zero, List.set_cons_succ, List.cons_append, List.nil_append, List.append_nil, List.length_cons, List.length_nil, List.getD_cons_zero, List.getD_cons_succ, Nat.reduceAdd, Nat.reduceMul, Nat.zero_add, V.setAt_nil, V.setAt_st, V.setAt_arr, map_set']) <;> exact rfl) (by (try simp only [List.set_cons_zero, List.set_cons_succ, List.cons_append, List.nil_append, List.append_nil, List.length_cons, List.length_nil, List.getD_cons_zero, List.getD_cons_succ, Nat.reduceAdd, Nat.reduceMul, Nat.zero_add, V.setAt_nil, V.setAt_st, V.setAt_arr, map_set']) <;> exact rfl)) (by first | exact trivial | exact rfl | exact ⟨rfl, rfl⟩) ?_
  refine S.new 5 rfl rfl (.nf (.box (lk 4 rfl rfl) rfl) (by (try simp only [List.set_cons_zero, List.set_cons_succ, List.cons_append, List.nil_append, List.append_nil, List.length_cons, List.length_nil, List.getD_cons_zero, List.getD_cons_succ, Nat.reduceAdd, Nat.reduceMul, Nat.zero_add, V.setAt_nil, V.setAt_st, V.setAt_arr, map_set']) <;> exact rfl) (by (try simp only [List.set_cons_zero, List.set_cons_succ, List.cons_append, List.nil_append, List.append_nil, List.length_cons, List.length_nil, List.getD_cons_zero, List.getD_cons_succ, Nat.reduceAdd, Nat.reduceMul, Nat.zero_add, V.setAt_nil, V.setAt_st, V.setAt_arr, map_set']) <;> exact rfl)) (by first | exact trivial | exact rfl | exact ⟨rfl, rfl⟩) ?_
  refine S.sil 6 rfl rfl (fun _ hF => .assign cB) ?_
  refine S.nil ?_
  refine thenQ_n ?_
  refine AWp.seq ?_
  refine W.regD [0, 1, 2, 3, 4, 5, 6, 7, 8, 9, 10, 11] mixed ?_
  first | refine S.qui 10 rfl rfl (fun _ => .load sz23 ag23 (lk 3 rfl rfl) (by first | rfl | simp) rfl (by first | rfl | simp [V.offOf]) (by first | rfl | (simp; done) | (simp; omega)) (by first | rfl | simp)) ?_ | refine S.sil 10 rfl rfl (fun _ hF => .loadC sz23 ag23 (lk 3 rfl rfl) (by first | rfl | simp) (by first | rfl | simp)) ?_
  first | refine S.qui 11 rfl rfl (fun _ => .load sz23 ag23 (lk 3 rfl rfl) (by first | rfl | simp) rfl (by first | rfl | simp [V.offOf]) (by first | rfl | (simp; done) | (simp; omega)) (by first | rfl | simp)) ?_ | refine S.sil 11 rfl rfl (fun _ hF => .loadC sz23 ag23 (lk 3 rfl rfl) (by first | rfl | simp) (by first | rfl | simp)) ?_
  refine S.sil 12 rfl rfl (fun _ hF => .callQ ent9 cF (.c (lk 1 rfl rfl) (by first | exact V.sub.refl _ | exact V.sub.forget _ _ _ | exact V.sub.nils_no _ | exact V.sub.nils _) (.c (lk 0 rfl rfl) (by first | exact V.sub.refl _ | exact V.sub.forget _ _ _ | exact V.sub.nils_no _ | exact V.sub.nils _) .nil)) (Compare_ok _ _)) ?_
  first | refine S.qui 13 rfl rfl (fun _ => .load sz23 ag23 (lk 5 rfl rfl) (by first | rfl | simp) rfl (by first | rfl | simp [V.offOf]) (by first | rfl | (simp; done) | (simp; omega)) (by first | rfl | simp)) ?_ | refine S.sil 13 rfl rfl (fun _ hF => .loadC sz23 ag23 (lk 5 rfl rfl) (by first | rfl | simp) (by first | rfl | simp)) ?_
  first | refine S.qui 14 rfl rfl (fun _ => .load sz23 ag23 (lk 5 rfl rfl) (by first | rfl | simp) rfl (by first | rfl | simp [V.offOf]) (by first | rfl | (simp; done) | (simp; omega)) (by first | rfl | simp)) ?_ | refine S.sil 14 rfl rfl (fun _ hF => .loadC sz23 ag23 (lk 5 rfl rfl) (by first | rfl | simp) (by first | rfl | simp)) ?_
  refine S.sil 15 rfl rfl (fun _ hF => .callQ ent9 cF (.c (lk 1 rfl rfl) (by first | exact V.sub.refl _ | exact V.sub.forget _ _ _ | exact V.sub.nils_no _ | exact V.sub.nils _) (.c (lk 0 rfl rfl) (by first | exact V.sub.refl _ | exact V.sub.forget _ _ _ | exact V.sub.nils_no _ | exact V.sub.nils _) .nil)) (Compare_ok _ _)) ?_
  first | refine S.qui 16 rfl rfl (fun _ => .load sz23 ag23 (lk 9 rfl rfl) (by first | rfl | simp) rfl (by first | rfl | simp [V.offOf]) (by first | rfl | (simp; done) | (simp; omega)) (by first | rfl | simp)) ?_ | refine S.sil 16 rfl rfl (fun _ hF => .loadC sz23 ag23 (lk 9 rfl rfl) (by first | rfl | simp) (by first | rfl | simp)) ?_
  first | refine S.qui 17 rfl rfl (fun _ => .load sz23 ag23 (lk 8 rfl rfl) (by first | rfl | simp) rfl (by first | rfl | simp [V.offOf]) (by first | rfl | (simp; done) | (simp; omega)) (by first | rfl | simp)) ?_ | refine S.sil 17 rfl rfl (fun _ hF => .loadC sz23 ag23 (lk 8 rfl rfl) (by first | rfl | simp) (by first | rfl | simp)) ?_
  refine S.sil 18 rfl rfl (fun _ hF => .callQ ent9 cF (.c (lk 1 rfl rfl) (by first | exact V.sub.refl _ | exact V.sub.forget _ _ _ | exact V.sub.nils_no _ | exact V.sub.nils _) (.c (lk 0 rfl rfl) (by first | exact V.sub.refl _ | exact V.sub.forget _ _ _ | exact V.sub.nils_no _ | exact V.sub.nils _) .nil)) (Compare_ok _ _)) ?_
  refine S.sil 7 rfl rfl (fun _ hF => .assign (lk 6 rfl rfl)) ?_
  refine S.sil 8 rfl rfl (fun _ hF => .assign (lk 4 rfl rfl)) ?_
  refine S.sil 9 rfl rfl (fun _ hF => .assign (lk 2 rfl rfl)) ?_
  refine S.nilD (by kernel_rfl) ?_
  refine thenQ_n ?_
  refine AWp.prune (.eq (lk 0 rfl rfl) rfl (.eq (lk 1 rfl rfl) rfl (.eq (lk 2 rfl rfl) rfl (.eq (lk 12 rfl rfl) rfl (.eq (lk 14 rfl rfl) rfl (.eq (lk 15 rfl rfl) rfl .nil)))))) ?_
  refine AWp.seq ?_
  refine W.reg [0, 1, 2, 3, 4, 5, 6, 7, 8, 9, 10, 11, 12, 13, 14, 15, 16, 17, 18, 19, 20, 21, 22, 23, 24, 25, 26, 27, 28, 29, 30, 31, 32, 33, 34, 35, 36, 37, 38, 39, 40, 41] rfl ?_
  first | refine S.qui 19 rfl rfl (fun _ => .load sz23 ag23 (lk 4 rfl rfl) (by first | rfl | simp) rfl (by first | rfl | simp [V.offOf]) (by first | rfl | (simp; done) | (simp; omega)) (by first | rfl | simp)) ?_ | refine S.sil 19 rfl rfl (fun _ hF => .loadC sz23 ag23 (lk 4 rfl rfl) (by first | rfl | simp) (by first | rfl | simp)) ?_
  first | refine S.qui 20 rfl rfl (fun _ => .load sz23 ag23 (lk 6 rfl rfl) (by first | rfl | simp) rfl (by first | rfl | simp [V.offOf]) (by first | rfl | (simp; done) | (simp; omega)) (by first | rfl | simp)) ?_ | refine S.sil 20 rfl rfl (fun _ hF => .loadC sz23 ag23 (lk 6 rfl rfl) (by first | rfl | simp) (by first | rfl | simp)) ?_
  refine S.sil 21 rfl rfl (fun _ hF => .callQ ent9 cF (.c (lk 1 rfl rfl) (by first | exact V.sub.refl _ | exact V.sub.forget _ _ _ | exact V.sub.nils_no _ | exact V.sub.nils _) (.c (lk 0 rfl rfl) (by first | exact V.sub.refl _ | exact V.sub.forget _ _ _ | exact V.sub.nils_no _ | exact V.sub.nils _) .nil)) (Compare_ok _ _)) ?_
  refine S.sil 22 rfl rfl (fun _ hF => .move (lk 5 rfl rfl)) ?_
  refine S.sil 23 rfl rfl (fun _ hF => .neg (lk 0 rfl rfl)) ?_
  refine S.sil 24 rfl rfl (fun _ hF => .eql (lk 2 rfl rfl) (lk 0 rfl rfl)) ?_
  refine S.sil 25 rfl rfl (fun _ hF => .move (lk 0 rfl rfl)) ?_
  refine S.gsil 26 6 25 true rfl rfl rfl (lk 0 rfl rfl) (fun hB _ hF => .move (lk 9 rfl rfl)) ?_
  refine S.gsil 27 6 25 true rfl rfl rfl (lk 1 rfl rfl) (fun hB _ hF => .eql (ifT hB (lk 0 rfl rfl)) cI) ?_
  first | refine S.gqui 28 6 25 true rfl rfl rfl (lk 2 rfl rfl) (fun hB _ => .load sz23 ag23 (lk 14 rfl rfl) (by first | rfl | simp) rfl (by first | rfl | simp [V.offOf]) (by first | rfl | (simp; done) | (simp; omega)) (by first | rfl | simp)) ?_ | refine S.gsil 28 6 25 true rfl rfl rfl (lk 2 rfl rfl) (fun hB _ hF => .loadC sz23 ag23 (lk 14 rfl rfl) (by first | rfl | simp) (by first | rfl | simp)) ?_
  first | refine S.gqui 29 6 25 true rfl rfl rfl (lk 3 rfl rfl) (fun hB _ => .load sz23 ag23 (lk 14 rfl rfl) (by first | rfl | simp) rfl (by first | rfl | simp [V.offOf]) (by first | rfl | (simp; done) | (simp; omega)) (by first | rfl | simp)) ?_ | refine S.gsil 29 6 25 true rfl rfl rfl (lk 3 rfl rfl) (fun hB _ hF => .loadC sz23 ag23 (lk 14 rfl rfl) (by first | rfl | simp) (by first | rfl | simp)) ?_
  refine S.gsil 30 6 25 true rfl rfl rfl (lk 4 rfl rfl) (fun hB _ hF => .eqlV eqt23 (ifT hB (lk 1 rfl rfl)) (ifT hB (lk 0 rfl rfl)) (by first | rfl | simp) (by first | rfl | simp) rfl rfl) ?_
  refine S.gsil 31 6 25 true rfl rfl rfl (lk 5 rfl rfl) (fun hB _ hF => .eqlB und4 (ifT hB (lk 3 rfl rfl)) (ifT hB (lk 0 rfl rfl))) ?_
  refine S.sil 32 rfl rfl (fun _ hF => .pickAnd (lk 6 rfl rfl) (fun h => ifT h (lk 0 rfl rfl)) cB) ?_
  refine S.sil 33 rfl rfl (fun _ hF => .move (lk 0 rfl rfl)) ?_
  refine S.gsil 34 14 33 true rfl rfl rfl (lk 0 rfl rfl) (fun hB _ hF => .move (lk 17 rfl rfl)) ?_
  refine S.gsil 35 14 33 true rfl rfl rfl (lk 1 rfl rfl) (fun hB _ hF => .lss (ifT hB (lk 0 rfl rfl)) cI) ?_
  refine S.gsil 36 14 33 true rfl rfl rfl (lk 2 rfl rfl) (fun hB _ hF => .move (ifT hB (lk 0 rfl rfl))) ?_
  refine S.gsil2 37 17 36 false rfl rfl rfl (lk 0 rfl rfl) (fun hB _ hF => .move (lk 19 rfl rfl)) ?_
  refine S.gsil2 38 17 36 false rfl rfl rfl (lk 1 rfl rfl) (fun hB _ hF => .lss (ifT hB (lk 0 rfl rfl)) cI) ?_
  refine S.gsil 39 14 33 true rfl rfl rfl (lk 5 rfl rfl) (fun hB _ hF => .pickOr (ifT hB (lk 2 rfl rfl)) cB (fun h => ifT ⟨hB, h⟩ (lk 0 rfl rfl))) ?_
  refine S.gsil 40 14 33 true rfl rfl rfl (lk 6 rfl rfl) (fun hB _ hF => .move (ifT hB (lk 0 rfl rfl))) ?_
  refine S.gsil2 41 21 40 false rfl rfl rfl (lk 0 rfl rfl) (fun hB _ hF => .move (lk 22 rfl rfl)) ?_
  refine S.gsil2 42 21 40 false rfl rfl rfl (lk 1 rfl rfl) (fun hB _ hF => .geq (ifT hB (lk 0 rfl rfl)) cI) ?_
  refine S.gsil 43 14 33 true rfl rfl rfl (lk 9 rfl rfl) (fun hB _ hF => .pickOr (ifT hB (lk 2 rfl rfl)) cB (fun h => ifT ⟨hB, h⟩ (lk 0 rfl rfl))) ?_
  refine S.sil 44 rfl rfl (fun _ hF => .pickAnd (lk 10 rfl rfl) (fun h => ifT h (lk 0 rfl rfl)) cB) ?_
  refine S.sil 45 rfl rfl (fun _ hF => .move (lk 0 rfl rfl)) ?_
  refine S.gsil 46 26 45 true rfl rfl rfl (lk 0 rfl rfl) (fun hB _ hF => .move (lk 29 rfl rfl)) ?_
  refine S.gsil 47 26 45 true rfl rfl rfl (lk 1 rfl rfl) (fun hB _ hF => .leq (ifT hB (lk 0 rfl rfl)) cI) ?_
  refine S.gsil 48 26 45 true rfl rfl rfl (lk 2 rfl rfl) (fun hB _ hF => .move (ifT hB (lk 0 rfl rfl))) ?_
  refine S.gsil2 49 29 48 false rfl rfl rfl (lk 0 rfl rfl) (fun hB _ hF => .move (lk 31 rfl rfl)) ?_
  refine S.gsil2 50 29 48 false rfl rfl rfl (lk 1 rfl rfl) (fun hB _ hF => .leq (ifT hB (lk 0 rfl rfl)) cI) ?_
  refine S.gsil 51 26 45 true rfl rfl rfl (lk 5 rfl rfl) (fun hB _ hF => .pickOr (ifT hB (lk 2 rfl rfl)) cB (fun h => ifT ⟨hB, h⟩ (lk 0 rfl rfl))) ?_
  refine S.gsil 52 26 45 true rfl rfl rfl (lk 6 rfl rfl) (fun hB _ hF => .move (ifT hB (lk 0 rfl rfl))) ?_
  refine S.gsil2 53 33 52 false rfl rfl rfl (lk 0 rfl rfl) (fun hB _ hF => .move (lk 34 rfl rfl)) ?_
  refine S.gsil2 54 33 52 false rfl rfl rfl (lk 1 rfl rfl) (fun hB _ hF => .gtr (ifT hB (lk 0 rfl rfl)) cI) ?_
  refine S.gsil 55 26 45 true rfl rfl rfl (lk 9 rfl rfl) (fun hB _ hF => .pickOr (ifT hB (lk 2 rfl rfl)) cB (fun h => ifT ⟨hB, h⟩ (lk 0 rfl rfl))) ?_
  refine S.sil 56 rfl rfl (fun _ hF => .pickAnd (lk 10 rfl rfl) (fun h => ifT h (lk 0 rfl rfl)) cB) ?_
  refine S.sil 57 rfl rfl (fun _ hF => .move (lk 0 rfl rfl)) ?_
  refine S.gsil 58 38 57 true rfl rfl rfl (lk 0 rfl rfl) (fun hB _ hF => .callQ ent10 cF .nil (awake_ok)) ?_
  refine S.sil 59 rfl rfl (fun _ hF => .pickAnd (lk 1 rfl rfl) (fun h => ifT h (lk 0 rfl rfl)) cB) ?_
  refine S.sil 6 rfl rfl (fun _ hF => .assign (lk 0 rfl rfl)) ?_
  refine S.nil ?_
  refine thenQ_n ?_
  refine AWp.prune (.eq (lk 0 rfl rfl) rfl .nil) ?_
  refine AWp.ret ?_
  refine end1 rfl (lk 0 rfl rfl) rfl (by first | rfl | simp []) ?_
  exact congrArg V.bool (lawLine a b c)

theorem LockJoins_ok (a b c : Lock) : PureC Pg 4 [encLock a, encLock b, encLock c] (.bool true) := by
  refine PureC.of (CallSpec.of_body 82 0 Try.func4 rfl rfl rfl (by simp) ?_) (by simp []) (by simp [])
  refine AWp.seq ?_
  refine W.reg [0, 1, 2, 3] rfl ?_
  refine S.new 3 rfl rfl (.nf (.box (lk 0 rfl rfl) rfl) (by (try simp only [List.set_cons_zero, List.set_cons_succ, List.cons_append, List.nil_append, List.append_nil, List.length_cons, List.length_nil, List.getD_cons_zero, List.getD_cons_succ, Nat.reduceAdd, Nat.reduceMul, Nat.zero_add, V.setAt_nil, V.setAt_st, V.setAt_arr, map_set']) <;> exact rfl) (by (try simp only [List.set_cons_zero, List.set_cons_succ, List.cons_append, List.nil_append, List.append_nil, List.length_cons, List.length_nil, List.getD_cons_zero, List.getD_cons_succ, Nat.reduceAdd, Nat.reduceMul, Nat.zero_add, V.setAt_nil, V.setAt_st, V.setAt_arr, map_set']) <;> exact rfl)) (by first | exact trivial | exact rfl | exact ⟨rfl, rfl⟩) ?_
  refine S.new 4 rfl rfl (.nf (.box (lk 2 rfl rfl) rfl) (by (try simp only [List.set_cons_zero, List.set_cons_succ, List.cons_append, List.nil_append, List.append_nil, List.length_cons, List.length_nil, List.getD_cons_zero, List.getD_cons_succ, Nat.reduceAdd, Nat.reduceMul, Nat.zero_add, V.setAt_nil, V.setAt_st, V.setAt_arr, map_set']) <;> exact rfl) (by (try simp only [List.set_cons_zero, List.set_cons_succ, List.cons_append, List.nil_append, List.append_nil, List.length_cons, List.length_nil, List.getD_cons_zero, List.getD_cons_succ, Nat.reduceAdd, Nat.reduceMul, Nat.zero_add, V.setAt_nil, V.setAt_st, V.setAt_arr, map_set']) <;> exact rfl)) (by first | exact trivial | exact rfl | exact ⟨rfl, rfl⟩) ?_
  refine S.new 5 rfl rfl (.nf (.box (lk 4 rfl rfl) rfl) (by (try simp only [List.set_cons_zero, List.set_cons_succ, List.cons_append, List.nil_append, List.append_nil, List.length_cons, List.length_nil, List.getD_cons_zero, List.getD_cons_succ, Nat.reduceAdd, Nat.reduceMul, Nat.zero_add, V.setAt_nil, V.setAt_st, V.setAt_arr, map_set']) <;> exact rfl) (by (try simp only [List.set_cons_zero, List.set_cons_succ, List.cons_append, List.nil_append, List.append_nil, List.length_cons, List.length_nil, List.getD_cons_zero, List.getD_cons_succ, Nat.reduceAdd, Nat.reduceMul, Nat.zero_add, V.setAt_nil, V.setAt_st, V.setAt_arr, map_set']) <;> exact rfl)) (by first | exact trivial | exact rfl | exact ⟨rfl, rfl⟩) ?_
  refine S.sil 6 rfl rfl (fun _ hF => .assign cB) ?_
  refine S.nil ?_
  refine thenQ_n ?_
  refine AWp.seq ?_
  refine W.reg [0, 1, 2, 3, 4] rfl ?_
  first | refine S.qui 9 rfl rfl (fun _ => .load sz23 ag23 (lk 3 rfl rfl) (by first | rfl | simp) rfl (by first | rfl | simp [V.offOf]) (by first | rfl | (simp; done) | (simp; omega)) (by first | rfl | simp)) ?_ | refine S.sil 9 rfl rfl (fun _ hF => .loadC sz23 ag23 (lk 3 rfl rfl) (by first | rfl | simp) (by first | rfl | simp)) ?_
  first | refine S.qui 10 rfl rfl (fun _ => .load sz23 ag23 (lk 3 rfl rfl) (by first | rfl | simp) rfl (by first | rfl | simp [V.offOf]) (by first | rfl | (simp; done) | (simp; omega)) (by first | rfl | simp)) ?_ | refine S.sil 10 rfl rfl (fun _ hF => .loadC sz23 ag23 (lk 3 rfl rfl) (by first | rfl | simp) (by first | rfl | simp)) ?_
  refine S.sil 11 rfl rfl (fun _ hF => .callQ ent11 cF (.c (lk 1 rfl rfl) (by first | exact V.sub.refl _ | exact V.sub.forget _ _ _ | exact V.sub.nils_no _ | exact V.sub.nils _) (.c (lk 0 rfl rfl) (by first | exact V.sub.refl _ | exact V.sub.forget _ _ _ | exact V.sub.nils_no _ | exact V.sub.nils _) .nil)) (Join_ok _ _)) ?_
  refine S.new 7 rfl rfl (.nf (.alloc zv23) (by (try simp only [List.set_cons_zero, List.set_cons_succ, List.cons_append, List.nil_append, List.append_nil, List.length_cons, List.length_nil, List.getD_cons_zero, List.getD_cons_succ, Nat.reduceAdd, Nat.reduceMul, Nat.zero_add, V.setAt_nil, V.setAt_st, V.setAt_arr, map_set']) <;> exact rfl) (by (try simp only [List.set_cons_zero, List.set_cons_succ, List.cons_append, List.nil_append, List.append_nil, List.length_cons, List.length_nil, List.getD_cons_zero, List.getD_cons_succ, Nat.reduceAdd, Nat.reduceMul, Nat.zero_add, V.setAt_nil, V.setAt_st, V.setAt_arr, map_set']) <;> exact rfl)) (by first | exact trivial | exact rfl | exact ⟨rfl, rfl⟩) ?_
  refine S.effN rfl rfl (.nf (.store sz23 (lk 0 rfl rfl) (lk 1 rfl rfl) rfl (by first | rfl | simp) rfl (by first | rfl | simp [V.offOf]) (by first | rfl | simp) (by first | rfl | simp)) (by (try simp only [List.set_cons_zero, List.set_cons_succ, List.cons_append, List.nil_append, List.append_nil, List.length_cons, List.length_nil, List.getD_cons_zero, List.getD_cons_succ, Nat.reduceAdd, Nat.reduceMul, Nat.zero_add, V.setAt_nil, V.setAt_st, V.setAt_arr, map_set']) <;> exact rfl) (by (try simp only [List.set_cons_zero, List.set_cons_succ, List.cons_append, List.nil_append, List.append_nil, List.length_cons, List.length_nil, List.getD_cons_zero, List.getD_cons_succ, Nat.reduceAdd, Nat.reduceMul, Nat.zero_add, V.setAt_nil, V.setAt_st, V.setAt_arr, map_set']) <;> exact rfl)) (by first | exact trivial | exact rfl | exact ⟨rfl, rfl⟩) ?_
  refine S.nil ?_
  refine thenQ_n ?_
  refine AWp.seq ?_
  refine W.reg [0, 1, 2, 3] rfl ?_
  first | refine S.qui 12 rfl rfl (fun _ => .load sz23 ag23 (lk 7 rfl rfl) (by first | rfl | simp) rfl (by first | rfl | simp [V.offOf]) (by first | rfl | (simp; done) | (simp; omega)) (by first | rfl | simp)) ?_ | refine S.sil 12 rfl rfl (fun _ hF => .loadC sz23 ag23 (lk 7 rfl rfl) (by first | rfl | simp) (by first | rfl | simp)) ?_
  first | refine S.qui 13 rfl rfl (fun _ => .load sz23 ag23 (lk 7 rfl rfl) (by first | rfl | simp) rfl (by first | rfl | simp [V.offOf]) (by first | rfl | (simp; done) | (simp; omega)) (by first | rfl | simp)) ?_ | refine S.sil 13 rfl rfl (fun _ hF => .loadC sz23 ag23 (lk 7 rfl rfl) (by first | rfl | simp) (by first | rfl | simp)) ?_
  refine S.sil 14 rfl rfl (fun _ hF => .callQ ent9 cF (.c (lk 1 rfl rfl) (by first | exact V.sub.refl _ | exact V.sub.forget _ _ _ | exact V.sub.nils_no _ | exact V.sub.nils _) (.c (lk 0 rfl rfl) (by first | exact V.sub.refl _ | exact V.sub.forget _ _ _ | exact V.sub.nils_no _ | exact V.sub.nils _) .nil)) (Compare_ok _ _)) ?_
  refine S.sil 8 rfl rfl (fun _ hF => .assign (lk 0 rfl rfl)) ?_
  refine S.nil ?_
  refine thenQ_n ?_
  refine AWp.seq ?_
  refine AWp.seq ?_
  refine W.regD [0, 1, 2, 3, 4, 5, 6, 7, 8, 9, 10, 11, 12, 13, 14, 15, 16, 17, 18, 19, 20, 21, 22, 23, 24, 25, 26, 27, 28] mixed ?_
  first | refine S.qui 15 rfl rfl (fun _ => .load sz23 ag23 (lk 4 rfl rfl) (by first | rfl | simp) rfl (by first | rfl | simp [V.offOf]) (by first | rfl | (simp; done) | (simp; omega)) (by first | rfl | simp)) ?_ | refine S.sil 15 rfl rfl (fun _ hF => .loadC sz23 ag23 (lk 4 rfl rfl) (by first | rfl | simp) (by first | rfl | simp)) ?_
  first | refine S.qui 16 rfl rfl (fun _ => .load sz23 ag23 (lk 12 rfl rfl) (by first | rfl | simp) rfl (by first | rfl | simp [V.offOf]) (by first | rfl | (simp; done) | (simp; omega)) (by first | rfl | simp)) ?_ | refine S.sil 16 rfl rfl (fun _ hF => .loadC sz23 ag23 (lk 12 rfl rfl) (by first | rfl | simp) (by first | rfl | simp)) ?_
  first | refine S.qui 17 rfl rfl (fun _ => .load sz23 ag23 (lk 12 rfl rfl) (by first | rfl | simp) rfl (by first | rfl | simp [V.offOf]) (by first | rfl | (simp; done) | (simp; omega)) (by first | rfl | simp)) ?_ | refine S.sil 17 rfl rfl (fun _ hF => .loadC sz23 ag23 (lk 12 rfl rfl) (by first | rfl | simp) (by first | rfl | simp)) ?_
  refine S.sil 18 rfl rfl (fun _ hF => .callQ ent12 cF (.c (lk 1 rfl rfl) (by first | exact V.sub.refl _ | exact V.sub.forget _ _ _ | exact V.sub.nils_no _ | exact V.sub.nils _) (.c (lk 0 rfl rfl) (by first | exact V.sub.refl _ | exact V.sub.forget _ _ _ | exact V.sub.nils_no _ | exact V.sub.nils _) .nil)) (rJoin_ok _ _)) ?_
  refine S.sil 19 rfl rfl (fun _ hF => .neqV eqt23 (lk 3 rfl rfl) (lk 0 rfl rfl) (by first | rfl | simp) (by first | rfl | simp) rfl rfl) ?_
  refine S.sil 20 rfl rfl (fun _ hF => .move (lk 0 rfl rfl)) ?_
  refine S.gsil 21 5 20 false rfl rfl rfl (lk 0 rfl rfl) (fun hB _ hF => .move (lk 6 rfl rfl)) ?_
  refine S.gsil 22 5 20 false rfl rfl rfl (lk 1 rfl rfl) (fun hB _ hF => .gtr (ifT hB (lk 0 rfl rfl)) cI) ?_
  first | refine S.gqui 23 5 20 false rfl rfl rfl (lk 2 rfl rfl) (fun hB _ => .load sz23 ag23 (lk 19 rfl rfl) (by first | rfl | simp) rfl (by first | rfl | simp [V.offOf]) (by first | rfl | (simp; done) | (simp; omega)) (by first | rfl | simp)) ?_ | refine S.gsil 23 5 20 false rfl rfl rfl (lk 2 rfl rfl) (fun hB _ hF => .loadC sz23 ag23 (lk 19 rfl rfl) (by first | rfl | simp) (by first | rfl | simp)) ?_
  first | refine S.gqui 24 5 20 false rfl rfl rfl (lk 3 rfl rfl) (fun hB _ => .load sz23 ag23 (lk 19 rfl rfl) (by first | rfl | simp) rfl (by first | rfl | simp [V.offOf]) (by first | rfl | (simp; done) | (simp; omega)) (by first | rfl | simp)) ?_ | refine S.gsil 24 5 20 false rfl rfl rfl (lk 3 rfl rfl) (fun hB _ hF => .loadC sz23 ag23 (lk 19 rfl rfl) (by first | rfl | simp) (by first | rfl | simp)) ?_
  refine S.gsil 25 5 20 false rfl rfl rfl (lk 4 rfl rfl) (fun hB _ hF => .callQ ent13 cF (.c (ifT hB (lk 1 rfl rfl)) (by first | exact V.sub.refl _ | exact V.sub.forget _ _ _ | exact V.sub.nils_no _ | exact V.sub.nils _) (.c (ifT hB (lk 0 rfl rfl)) (by first | exact V.sub.refl _ | exact V.sub.forget _ _ _ | exact V.sub.nils_no _ | exact V.sub.nils _) .nil)) (rBehind_ok _ _)) ?_
  refine S.gsil 26 5 20 false rfl rfl rfl (lk 5 rfl rfl) (fun hB _ hF => .neqB und4 (ifT hB (lk 3 rfl rfl)) (ifT hB (lk 0 rfl rfl))) ?_
  refine S.sil 27 rfl rfl (fun _ hF => .pickOr (lk 6 rfl rfl) cB (fun h => ifT h (lk 0 rfl rfl))) ?_
  refine S.sil 28 rfl rfl (fun _ hF => .move (lk 0 rfl rfl)) ?_
  refine S.gsil 29 13 28 false rfl rfl rfl (lk 0 rfl rfl) (fun hB _ hF => .move (lk 14 rfl rfl)) ?_
  refine S.gsil 30 13 28 false rfl rfl rfl (lk 1 rfl rfl) (fun hB _ hF => .lss (ifT hB (lk 0 rfl rfl)) cI) ?_
  first | refine S.gqui 31 13 28 false rfl rfl rfl (lk 2 rfl rfl) (fun hB _ => .load sz23 ag23 (lk 26 rfl rfl) (by first | rfl | simp) rfl (by first | rfl | simp [V.offOf]) (by first | rfl | (simp; done) | (simp; omega)) (by first | rfl | simp)) ?_ | refine S.gsil 31 13 28 false rfl rfl rfl (lk 2 rfl rfl) (fun hB _ hF => .loadC sz23 ag23 (lk 26 rfl rfl) (by first | rfl | simp) (by first | rfl | simp)) ?_
  first | refine S.gqui 32 13 28 false rfl rfl rfl (lk 3 rfl rfl) (fun hB _ => .load sz23 ag23 (lk 28 rfl rfl) (by first | rfl | simp) rfl (by first | rfl | simp [V.offOf]) (by first | rfl | (simp; done) | (simp; omega)) (by first | rfl | simp)) ?_ | refine S.gsil 32 13 28 false rfl rfl rfl (lk 3 rfl rfl) (fun hB _ hF => .loadC sz23 ag23 (lk 28 rfl rfl) (by first | rfl | simp) (by first | rfl | simp)) ?_
  refine S.gsil 33 13 28 false rfl rfl rfl (lk 4 rfl rfl) (fun hB _ hF => .callQ ent13 cF (.c (ifT hB (lk 1 rfl rfl)) (by first | exact V.sub.refl _ | exact V.sub.forget _ _ _ | exact V.sub.nils_no _ | exact V.sub.nils _) (.c (ifT hB (lk 0 rfl rfl)) (by first | exact V.sub.refl _ | exact V.sub.forget _ _ _ | exact V.sub.nils_no _ | exact V.sub.nils _) .nil)) (rBehind_ok _ _)) ?_
  refine S.gsil 34 13 28 false rfl rfl rfl (lk 5 rfl rfl) (fun hB _ hF => .neqB und4 (ifT hB (lk 3 rfl rfl)) (ifT hB (lk 0 rfl rfl))) ?_
  refine S.sil 35 rfl rfl (fun _ hF => .pickOr (lk 6 rfl rfl) cB (fun h => ifT h (lk 0 rfl rfl))) ?_
  refine S.sil 36 rfl rfl (fun _ hF => .move (lk 0 rfl rfl)) ?_
  refine S.gsil 37 21 36 false rfl rfl rfl (lk 0 rfl rfl) (fun hB _ hF => .move (lk 22 rfl rfl)) ?_
  refine S.gsil 38 21 36 false rfl rfl rfl (lk 1 rfl rfl) (fun hB _ hF => .eql (ifT hB (lk 0 rfl rfl)) cI) ?_
  first | refine S.gqui 39 21 36 false rfl rfl rfl (lk 2 rfl rfl) (fun hB _ => .load sz23 ag23 (lk 35 rfl rfl) (by first | rfl | simp) rfl (by first | rfl | simp [V.offOf]) (by first | rfl | (simp; done) | (simp; omega)) (by first | rfl | simp)) ?_ | refine S.gsil 39 21 36 false rfl rfl rfl (lk 2 rfl rfl) (fun hB _ hF => .loadC sz23 ag23 (lk 35 rfl rfl) (by first | rfl | simp) (by first | rfl | simp)) ?_
  first | refine S.gqui 40 21 36 false rfl rfl rfl (lk 3 rfl rfl) (fun hB _ => .load sz23 ag23 (lk 35 rfl rfl) (by first | rfl | simp) rfl (by first | rfl | simp [V.offOf]) (by first | rfl | (simp; done) | (simp; omega)) (by first | rfl | simp)) ?_ | refine S.gsil 40 21 36 false rfl rfl rfl (lk 3 rfl rfl) (fun hB _ hF => .loadC sz23 ag23 (lk 35 rfl rfl) (by first | rfl | simp) (by first | rfl | simp)) ?_
  refine S.gsil 41 21 36 false rfl rfl rfl (lk 4 rfl rfl) (fun hB _ hF => .eqlV eqt23 (ifT hB (lk 1 rfl rfl)) (ifT hB (lk 0 rfl rfl)) (by first | rfl | simp) (by first | rfl | simp) rfl rfl) ?_
  refine S.gsil 42 21 36 false rfl rfl rfl (lk 5 rfl rfl) (fun hB _ hF => .neqB und4 (ifT hB (lk 3 rfl rfl)) (ifT hB (lk 0 rfl rfl))) ?_
  refine S.sil 43 rfl rfl (fun _ hF => .pickOr (lk 6 rfl rfl) cB (fun h => ifT h (lk 0 rfl rfl))) ?_
  refine S.nilD (by kernel_rfl) ?_
  refine thenQ_n ?_
  refine AWp.prune (.eq (lk 0 rfl rfl) rfl (.eq (lk 33 rfl rfl) rfl (.eq (lk 37 rfl rfl) rfl (.eq (lk 38 rfl rfl) rfl (.eq (lk 39 rfl rfl) rfl (.eq (lk 40 rfl rfl) rfl .nil)))))) ?_
  refine AWp.cond (lk 0 rfl rfl) (fun c0 => ?_) (fun c0 => ?_)
  · try simp only [decide_eq_true_eq, decide_eq_false_iff_not, Bool.not_eq_true', Bool.not_eq_false', Bool.and_eq_true, Bool.or_eq_true, Bool.and_eq_false_iff, Bool.or_eq_false_iff, Bool.not_eq_true, Bool.not_eq_false, ite_eq_left_iff] at c0
    refine AWp.seq ?_
    refine W.reg [0] rfl ?_
    refine S.sil 6 rfl rfl (fun _ hF => .assign cB) ?_
    refine S.nil ?_
    refine thenQ_n ?_
    refine AWp.ret ?_
    refine thenQ_r ?_
    refine end1 rfl (lk 0 rfl rfl) rfl (by first | rfl | simp []) ?_
    exact absurd c0 (lawJoins0 a b)
  · try simp only [decide_eq_true_eq, decide_eq_false_iff_not, Bool.not_eq_true', Bool.not_eq_false', Bool.and_eq_true, Bool.or_eq_true, Bool.and_eq_false_iff, Bool.or_eq_false_iff, Bool.not_eq_true, Bool.not_eq_false, ite_eq_left_iff] at c0
    refine AWp.skip ?_
    refine thenQ_n ?_
    refine AWp.seq ?_
    refine W.regD [0, 1, 2, 3, 4, 5, 6, 7, 8, 9, 10, 11, 12, 13, 14, 15, 16, 17, 18, 19, 20, 21, 22, 23, 24, 25, 26, 27, 28, 29, 30, 31, 32, 33, 34, 35, 36, 37, 38] mixed ?_
    first | refine S.qui 44 rfl rfl (fun _ => .load sz23 ag23 (lk 1 rfl rfl) (by first | rfl | simp) rfl (by first | rfl | simp [V.offOf]) (by first | rfl | (simp; done) | (simp; omega)) (by first | rfl | simp)) ?_ | refine S.sil 44 rfl rfl (fun _ hF => .loadC sz23 ag23 (lk 1 rfl rfl) (by first | rfl | simp) (by first | rfl | simp)) ?_
    first | refine S.qui 45 rfl rfl (fun _ => .load sz23 ag23 (lk 5 rfl rfl) (by first | rfl | simp) rfl (by first | rfl | simp [V.offOf]) (by first | rfl | (simp; done) | (simp; omega)) (by first | rfl | simp)) ?_ | refine S.sil 45 rfl rfl (fun _ hF => .loadC sz23 ag23 (lk 5 rfl rfl) (by first | rfl | simp) (by first | rfl | simp)) ?_
    first | refine S.qui 46 rfl rfl (fun _ => .load sz23 ag23 (lk 7 rfl rfl) (by first | rfl | simp) rfl (by first | rfl | simp [V.offOf]) (by first | rfl | (simp; done) | (simp; omega)) (by first | rfl | simp)) ?_ | refine S.sil 46 rfl rfl (fun _ hF => .loadC sz23 ag23 (lk 7 rfl rfl) (by first | rfl | simp) (by first | rfl | simp)) ?_
    refine S.sil 47 rfl rfl (fun _ hF => .callQ ent11 cF (.c (lk 1 rfl rfl) (by first | exact V.sub.refl _ | exact V.sub.forget _ _ _ | exact V.sub.nils_no _ | exact V.sub.nils _) (.c (lk 0 rfl rfl) (by first | exact V.sub.refl _ | exact V.sub.forget _ _ _ | exact V.sub.nils_no _ | exact V.sub.nils _) .nil)) (Join_ok _ _)) ?_
    refine S.sil 48 rfl rfl (fun _ hF => .eqlV eqt23 (lk 3 rfl rfl) (lk 0 rfl rfl) (by first | rfl | simp) (by first | rfl | simp) rfl rfl) ?_
    refine S.sil 49 rfl rfl (fun _ hF => .move (lk 0 rfl rfl)) ?_
    first | refine S.gqui 50 5 49 true rfl rfl rfl (lk 0 rfl rfl) (fun hB _ => .load sz23 ag23 (lk 7 rfl rfl) (by first | rfl | simp) rfl (by first | rfl | simp [V.offOf]) (by first | rfl | (simp; done) | (simp; omega)) (by first | rfl | simp)) ?_ | refine S.gsil 50 5 49 true rfl rfl rfl (lk 0 rfl rfl) (fun hB _ hF => .loadC sz23 ag23 (lk 7 rfl rfl) (by first | rfl | simp) (by first | rfl | simp)) ?_
    first | refine S.gqui 51 5 49 true rfl rfl rfl (lk 1 rfl rfl) (fun hB _ => .load sz23 ag23 (lk 10 rfl rfl) (by first | rfl | simp) rfl (by first | rfl | simp [V.offOf]) (by first | rfl | (simp; done) | (simp; omega)) (by first | rfl | simp)) ?_ | refine S.gsil 51 5 49 true rfl rfl rfl (lk 1 rfl rfl) (fun hB _ hF => .loadC sz23 ag23 (lk 10 rfl rfl) (by first | rfl | simp) (by first | rfl | simp)) ?_
    refine S.gsil 52 5 49 true rfl rfl rfl (lk 2 rfl rfl) (fun hB _ hF => .callQ ent11 cF (.c (ifT hB (lk 1 rfl rfl)) (by first | exact V.sub.refl _ | exact V.sub.forget _ _ _ | exact V.sub.nils_no _ | exact V.sub.nils _) (.c (ifT hB (lk 0 rfl rfl)) (by first | exact V.sub.refl _ | exact V.sub.forget _ _ _ | exact V.sub.nils_no _ | exact V.sub.nils _) .nil)) (Join_ok _ _)) ?_
    first | refine S.gqui 53 5 49 true rfl rfl rfl (lk 3 rfl rfl) (fun hB _ => .load sz23 ag23 (lk 14 rfl rfl) (by first | rfl | simp) rfl (by first | rfl | simp [V.offOf]) (by first | rfl | (simp; done) | (simp; omega)) (by first | rfl | simp)) ?_ | refine S.gsil 53 5 49 true rfl rfl rfl (lk 3 rfl rfl) (fun hB _ hF => .loadC sz23 ag23 (lk 14 rfl rfl) (by first | rfl | simp) (by first | rfl | simp)) ?_
    first | refine S.gqui 54 5 49 true rfl rfl rfl (lk 4 rfl rfl) (fun hB _ => .load sz23 ag23 (lk 14 rfl rfl) (by first | rfl | simp) rfl (by first | rfl | simp [V.offOf]) (by first | rfl | (simp; done) | (simp; omega)) (by first | rfl | simp)) ?_ | refine S.gsil 54 5 49 true rfl rfl rfl (lk 4 rfl rfl) (fun hB _ hF => .loadC sz23 ag23 (lk 14 rfl rfl) (by first | rfl | simp) (by first | rfl | simp)) ?_
    first | refine S.gqui 55 5 49 true rfl rfl rfl (lk 5 rfl rfl) (fun hB _ => .load sz23 ag23 (lk 14 rfl rfl) (by first | rfl | simp) rfl (by first | rfl | simp [V.offOf]) (by first | rfl | (simp; done) | (simp; omega)) (by first | rfl | simp)) ?_ | refine S.gsil 55 5 49 true rfl rfl rfl (lk 5 rfl rfl) (fun hB _ hF => .loadC sz23 ag23 (lk 14 rfl rfl) (by first | rfl | simp) (by first | rfl | simp)) ?_
    refine S.gsil 56 5 49 true rfl rfl rfl (lk 6 rfl rfl) (fun hB _ hF => .callQ ent11 cF (.c (ifT hB (lk 1 rfl rfl)) (by first | exact V.sub.refl _ | exact V.sub.forget _ _ _ | exact V.sub.nils_no _ | exact V.sub.nils _) (.c (ifT hB (lk 0 rfl rfl)) (by first | exact V.sub.refl _ | exact V.sub.forget _ _ _ | exact V.sub.nils_no _ | exact V.sub.nils _) .nil)) (Join_ok _ _)) ?_
    refine S.gsil 57 5 49 true rfl rfl rfl (lk 7 rfl rfl) (fun hB _ hF => .callQ ent11 cF (.c (ifT hB (lk 3 rfl rfl)) (by first | exact V.sub.refl _ | exact V.sub.forget _ _ _ | exact V.sub.nils_no _ | exact V.sub.nils _) (.c (ifT hB (lk 0 rfl rfl)) (by first | exact V.sub.refl _ | exact V.sub.forget _ _ _ | exact V.sub.nils_no _ | exact V.sub.nils _) .nil)) (Join_ok _ _)) ?_
    refine S.gsil 58 5 49 true rfl rfl rfl (lk 8 rfl rfl) (fun hB _ hF => .eqlV eqt23 (ifT hB (lk 5 rfl rfl)) (ifT hB (lk 0 rfl rfl)) (by first | rfl | simp) (by first | rfl | simp) rfl rfl) ?_
    refine S.sil 59 rfl rfl (fun _ hF => .pickAnd (lk 9 rfl rfl) (fun h => ifT h (lk 0 rfl rfl)) cB) ?_
    refine S.sil 60 rfl rfl (fun _ hF => .move (lk 0 rfl rfl)) ?_
    first | refine S.gqui 61 16 60 true rfl rfl rfl (lk 0 rfl rfl) (fun hB _ => .load sz23 ag23 (lk 22 rfl rfl) (by first | rfl | simp) rfl (by first | rfl | simp [V.offOf]) (by first | rfl | (simp; done) | (simp; omega)) (by first | rfl | simp)) ?_ | refine S.gsil 61 16 60 true rfl rfl rfl (lk 0 rfl rfl) (fun hB _ hF => .loadC sz23 ag23 (lk 22 rfl rfl) (by first | rfl | simp) (by first | rfl | simp)) ?_
    first | refine S.gqui 62 16 60 true rfl rfl rfl (lk 1 rfl rfl) (fun hB _ => .load sz23 ag23 (lk 23 rfl rfl) (by first | rfl | simp) rfl (by first | rfl | simp [V.offOf]) (by first | rfl | (simp; done) | (simp; omega)) (by first | rfl | simp)) ?_ | refine S.gsil 62 16 60 true rfl rfl rfl (lk 1 rfl rfl) (fun hB _ hF => .loadC sz23 ag23 (lk 23 rfl rfl) (by first | rfl | simp) (by first | rfl | simp)) ?_
    refine S.gsil 63 16 60 true rfl rfl rfl (lk 2 rfl rfl) (fun hB _ hF => .callQ ent11 cF (.c (ifT hB (lk 1 rfl rfl)) (by first | exact V.sub.refl _ | exact V.sub.forget _ _ _ | exact V.sub.nils_no _ | exact V.sub.nils _) (.c (ifT hB (lk 0 rfl rfl)) (by first | exact V.sub.refl _ | exact V.sub.forget _ _ _ | exact V.sub.nils_no _ | exact V.sub.nils _) .nil)) (Join_ok _ _)) ?_
    first | refine S.gqui 64 16 60 true rfl rfl rfl (lk 3 rfl rfl) (fun hB _ => .load sz23 ag23 (lk 25 rfl rfl) (by first | rfl | simp) rfl (by first | rfl | simp [V.offOf]) (by first | rfl | (simp; done) | (simp; omega)) (by first | rfl | simp)) ?_ | refine S.gsil 64 16 60 true rfl rfl rfl (lk 3 rfl rfl) (fun hB _ hF => .loadC sz23 ag23 (lk 25 rfl rfl) (by first | rfl | simp) (by first | rfl | simp)) ?_
    refine S.gsil 65 16 60 true rfl rfl rfl (lk 4 rfl rfl) (fun hB _ hF => .eqlV eqt23 (ifT hB (lk 1 rfl rfl)) (ifT hB (lk 0 rfl rfl)) (by first | rfl | simp) (by first | rfl | simp) rfl rfl) ?_
    refine S.sil 66 rfl rfl (fun _ hF => .pickAnd (lk 5 rfl rfl) (fun h => ifT h (lk 0 rfl rfl)) cB) ?_
    refine S.sil 67 rfl rfl (fun _ hF => .move (lk 0 rfl rfl)) ?_
    first | refine S.gqui 68 23 67 true rfl rfl rfl (lk 0 rfl rfl) (fun hB _ => .load sz23 ag23 (lk 25 rfl rfl) (by first | rfl | simp) rfl (by first | rfl | simp [V.offOf]) (by first | rfl | (simp; done) | (simp; omega)) (by first | rfl | simp)) ?_ | refine S.gsil 68 23 67 true rfl rfl rfl (lk 0 rfl rfl) (fun hB _ hF => .loadC sz23 ag23 (lk 25 rfl rfl) (by first | rfl | simp) (by first | rfl | simp)) ?_
    first | refine S.gqui 69 23 67 true rfl rfl rfl (lk 1 rfl rfl) (fun hB _ => .load sz23 ag23 (lk 30 rfl rfl) (by first | rfl | simp) rfl (by first | rfl | simp [V.offOf]) (by first | rfl | (simp; done) | (simp; omega)) (by first | rfl | simp)) ?_ | refine S.gsil 69 23 67 true rfl rfl rfl (lk 1 rfl rfl) (fun hB _ hF => .loadC sz23 ag23 (lk 30 rfl rfl) (by first | rfl | simp) (by first | rfl | simp)) ?_
    refine S.gsil 70 23 67 true rfl rfl rfl (lk 2 rfl rfl) (fun hB _ hF => .callQ ent9 cF (.c (ifT hB (lk 1 rfl rfl)) (by first | exact V.sub.refl _ | exact V.sub.forget _ _ _ | exact V.sub.nils_no _ | exact V.sub.nils _) (.c (ifT hB (lk 0 rfl rfl)) (by first | exact V.sub.refl _ | exact V.sub.forget _ _ _ | exact V.sub.nils_no _ | exact V.sub.nils _) .nil)) (Compare_ok _ _)) ?_
    refine S.gsil 71 23 67 true rfl rfl rfl (lk 3 rfl rfl) (fun hB _ hF => .geq (ifT hB (lk 0 rfl rfl)) cI) ?_
    refine S.sil 72 rfl rfl (fun _ hF => .pickAnd (lk 4 rfl rfl) (fun h => ifT h (lk 0 rfl rfl)) cB) ?_
    refine S.sil 73 rfl rfl (fun _ hF => .move (lk 0 rfl rfl)) ?_
    first | refine S.gqui 74 29 73 true rfl rfl rfl (lk 0 rfl rfl) (fun hB _ => .load sz23 ag23 (lk 31 rfl rfl) (by first | rfl | simp) rfl (by first | rfl | simp [V.offOf]) (by first | rfl | (simp; done) | (simp; omega)) (by first | rfl | simp)) ?_ | refine S.gsil 74 29 73 true rfl rfl rfl (lk 0 rfl rfl) (fun hB _ hF => .loadC sz23 ag23 (lk 31 rfl rfl) (by first | rfl | simp) (by first | rfl | simp)) ?_
    first | refine S.gqui 75 29 73 true rfl rfl rfl (lk 1 rfl rfl) (fun hB _ => .load sz23 ag23 (lk 35 rfl rfl) (by first | rfl | simp) rfl (by first | rfl | simp [V.offOf]) (by first | rfl | (simp; done) | (simp; omega)) (by first | rfl | simp)) ?_ | refine S.gsil 75 29 73 true rfl rfl rfl (lk 1 rfl rfl) (fun hB _ hF => .loadC sz23 ag23 (lk 35 rfl rfl) (by first | rfl | simp) (by first | rfl | simp)) ?_
    refine S.gsil 76 29 73 true rfl rfl rfl (lk 2 rfl rfl) (fun hB _ hF => .callQ ent9 cF (.c (ifT hB (lk 1 rfl rfl)) (by first | exact V.sub.refl _ | exact V.sub.forget _ _ _ | exact V.sub.nils_no _ | exact V.sub.nils _) (.c (ifT hB (lk 0 rfl rfl)) (by first | exact V.sub.refl _ | exact V.sub.forget _ _ _ | exact V.sub.nils_no _ | exact V.sub.nils _) .nil)) (Compare_ok _ _)) ?_
    refine S.gsil 77 29 73 true rfl rfl rfl (lk 3 rfl rfl) (fun hB _ hF => .geq (ifT hB (lk 0 rfl rfl)) cI) ?_
    refine S.sil 78 rfl rfl (fun _ hF => .pickAnd (lk 4 rfl rfl) (fun h => ifT h (lk 0 rfl rfl)) cB) ?_
    refine S.sil 79 rfl rfl (fun _ hF => .move (lk 0 rfl rfl)) ?_
    refine S.gsil 80 35 79 true rfl rfl rfl (lk 0 rfl rfl) (fun hB _ hF => .callQ ent10 cF .nil (awake_ok)) ?_
    refine S.sil 81 rfl rfl (fun _ hF => .pickAnd (lk 1 rfl rfl) (fun h => ifT h (lk 0 rfl rfl)) cB) ?_
    refine S.sil 6 rfl rfl (fun _ hF => .assign (lk 0 rfl rfl)) ?_
    refine S.nilD (by kernel_rfl) ?_
    refine thenQ_n ?_
    refine AWp.prune (.eq (lk 0 rfl rfl) rfl .nil) ?_
    refine AWp.ret ?_
    refine end1 rfl (lk 0 rfl rfl) rfl (by first | rfl | simp []) ?_
    exact congrArg V.bool (lawJoins1 a b c)

theorem LockSteps_ok (l : Lock) (k to n : Int) : PureC Pg 8 [encLock l, .int .i64 k, .int .i64 to, .int .i64 n] (.bool true) := by
  refine PureC.of (CallSpec.of_body 114 0 Try.func8 rfl rfl rfl (by simp) ?_) (by simp []) (by simp [])
  refine AWp.seq ?_
  refine W.reg [0, 1] rfl ?_
  refine S.new 4 rfl rfl (.nf (.box (lk 0 rfl rfl) rfl) (by (try simp only [List.set_cons_zero, List.set_cons_succ, List.cons_append, List.nil_append, List.append_nil, List.length_cons, List.length_nil, List.getD_cons_zero, List.getD_cons_succ, Nat.reduceAdd, Nat.reduceMul, Nat.zero_add, V.setAt_nil, V.setAt_st, V.setAt_arr, map_set']) <;> exact rfl) (by (try simp only [List.set_cons_zero, List.set_cons_succ, List.cons_append, List.nil_append, List.append_nil, List.length_cons, List.length_nil, List.getD_cons_zero, List.getD_cons_succ, Nat.reduceAdd, Nat.reduceMul, Nat.zero_add, V.setAt_nil, V.setAt_st, V.setAt_arr, map_set']) <;> exact rfl)) (by first | exact trivial | exact rfl | exact ⟨rfl, rfl⟩) ?_
  refine S.sil 8 rfl rfl (fun _ hF => .assign cB) ?_
  refine S.nil ?_
  refine thenQ_n ?_
  refine AWp.seq ?_
  refine AWp.seq ?_
  refine W.reg [0, 1, 2] rfl ?_
  first | refine S.qui 13 rfl rfl (fun _ => .load sz23 ag23 (lk 1 rfl rfl) (by first | rfl | simp) rfl (by first | rfl | simp [V.offOf]) (by first | rfl | (simp; done) | (simp; omega)) (by first | rfl | simp)) ?_ | refine S.sil 13 rfl rfl (fun _ hF => .loadC sz23 ag23 (lk 1 rfl rfl) (by first | rfl | simp) (by first | rfl | simp)) ?_
  refine S.sil 14 rfl rfl (fun _ hF => .callQ ent17 cF (.c (lk 0 rfl rfl) (by first | exact V.sub.refl _ | exact V.sub.forget _ _ _ | exact V.sub.nils_no _ | exact V.sub.nils _) .nil) (Right_ok _)) ?_
  refine S.sil 15 rfl rfl (fun _ hF => .not (lk 0 rfl rfl)) ?_
  refine S.nil ?_
  refine thenQ_n ?_
  refine AWp.cond (lk 0 rfl rfl) (fun c0 => ?_) (fun c0 => ?_)
  · try simp only [decide_eq_true_eq, decide_eq_false_iff_not, Bool.not_eq_true', Bool.not_eq_false', Bool.and_eq_true, Bool.or_eq_true, Bool.and_eq_false_iff, Bool.or_eq_false_iff, Bool.not_eq_true, Bool.not_eq_false, ite_eq_left_iff] at c0
    refine AWp.seq ?_
    refine W.reg [0, 1] rfl ?_
    refine S.sil 16 rfl rfl (fun _ hF => .callQ ent10 cF .nil (awake_ok)) ?_
    refine S.sil 8 rfl rfl (fun _ hF => .assign (lk 0 rfl rfl)) ?_
    refine S.nil ?_
    refine thenQ_n ?_
    refine AWp.ret ?_
    refine thenQ_r ?_
    refine end1 rfl (lk 0 rfl rfl) rfl (by first | rfl | simp []) ?_
    rfl
  · try simp only [decide_eq_true_eq, decide_eq_false_iff_not, Bool.not_eq_true', Bool.not_eq_false', Bool.and_eq_true, Bool.or_eq_true, Bool.and_eq_false_iff, Bool.or_eq_false_iff, Bool.not_eq_true, Bool.not_eq_false, ite_eq_left_iff] at c0
    refine AWp.skip ?_
    refine thenQ_n ?_
    refine AWp.seq ?_
    refine W.reg [0, 1, 2, 3, 4, 5, 6, 7, 8, 9] rfl ?_
    first | refine S.qui 18 rfl rfl (fun _ => .load sz23 ag23 (lk 4 rfl rfl) (by first | rfl | simp) rfl (by first | rfl | simp [V.offOf]) (by first | rfl | (simp; done) | (simp; omega)) (by first | rfl | simp)) ?_ | refine S.sil 18 rfl rfl (fun _ hF => .loadC sz23 ag23 (lk 4 rfl rfl) (by first | rfl | simp) (by first | rfl | simp)) ?_
    refine S.sil 19 rfl rfl (fun _ hF => .move (lk 7 rfl rfl)) ?_
    refine S.sil 20 rfl rfl (fun _ hF => .move (lk 10 rfl rfl)) ?_
    refine S.sil 21 rfl rfl (fun _ hF => .callQ ent15 cF (.c (lk 2 rfl rfl) (by first | exact V.sub.refl _ | exact V.sub.forget _ _ _ | exact V.sub.nils_no _ | exact V.sub.nils _) (.c (lk 1 rfl rfl) (by first | exact V.sub.refl _ | exact V.sub.forget _ _ _ | exact V.sub.nils_no _ | exact V.sub.nils _) (.c (lk 0 rfl rfl) (by first | exact V.sub.refl _ | exact V.sub.forget _ _ _ | exact V.sub.nils_no _ | exact V.sub.nils _) .nil))) (Write_ok _ _ _)) ?_
    refine S.sil 17 rfl rfl (fun _ hF => .move (lk 0 rfl rfl)) ?_
    refine S.sil 22 rfl rfl (fun _ hF => .extract (lk 0 rfl rfl) rfl) ?_
    refine S.sil 23 rfl rfl (fun _ hF => .extract (lk 1 rfl rfl) rfl) ?_
    refine S.new 9 rfl rfl (.nf (.alloc zv23) (by (try simp only [List.set_cons_zero, List.set_cons_succ, List.cons_append, List.nil_append, List.append_nil, List.length_cons, List.length_nil, List.getD_cons_zero, List.getD_cons_succ, Nat.reduceAdd, Nat.reduceMul, Nat.zero_add, V.setAt_nil, V.setAt_st, V.setAt_arr, map_set']) <;> exact rfl) (by (try simp only [List.set_cons_zero, List.set_cons_succ, List.cons_append, List.nil_append, List.append_nil, List.length_cons, List.length_nil, List.getD_cons_zero, List.getD_cons_succ, Nat.reduceAdd, Nat.reduceMul, Nat.zero_add, V.setAt_nil, V.setAt_st, V.setAt_arr, map_set']) <;> exact rfl)) (by first | exact trivial | exact rfl | exact ⟨rfl, rfl⟩) ?_
    refine S.effN rfl rfl (.nf (.store sz23 (lk 0 rfl rfl) (lk 2 rfl rfl) rfl (by first | rfl | simp) rfl (by first | rfl | simp [V.offOf]) (by first | rfl | simp) (by first | rfl | simp)) (by (try simp only [List.set_cons_zero, List.set_cons_succ, List.cons_append, List.nil_append, List.append_nil, List.length_cons, List.length_nil, List.getD_cons_zero, List.getD_cons_succ, Nat.reduceAdd, Nat.reduceMul, Nat.zero_add, V.setAt_nil, V.setAt_st, V.setAt_arr, map_set']) <;> exact rfl) (by (try simp only [List.set_cons_zero, List.set_cons_succ, List.cons_append, List.nil_append, List.append_nil, List.length_cons, List.length_nil, List.getD_cons_zero, List.getD_cons_succ, Nat.reduceAdd, Nat.reduceMul, Nat.zero_add, V.setAt_nil, V.setAt_st, V.setAt_arr, map_set']) <;> exact rfl)) (by first | exact trivial | exact rfl | exact ⟨rfl, rfl⟩) ?_
    refine S.sil 10 rfl rfl (fun _ hF => .assign (lk 1 rfl rfl)) ?_
    refine S.nil ?_
    refine thenQ_n ?_
    refine AWp.prune (.eq (lk 0 rfl rfl) rfl (.eq (lk 1 rfl rfl) rfl (.eq (lk 12 rfl rfl) rfl (.eq (lk 13 rfl rfl) rfl (.eq (lk 15 rfl rfl) rfl (.eq (lk 16 rfl rfl) rfl (.eq (lk 17 rfl rfl) rfl .nil))))))) ?_
    refine AWp.seq ?_
    refine W.reg [0, 1, 2, 3, 4, 5, 6, 7, 8, 9] rfl ?_
    first | refine S.qui 25 rfl rfl (fun _ => .load sz23 ag23 (lk 3 rfl rfl) (by first | rfl | simp) rfl (by first | rfl | simp [V.offOf]) (by first | rfl | (simp; done) | (simp; omega)) (by first | rfl | simp)) ?_ | refine S.sil 25 rfl rfl (fun _ hF => .loadC sz23 ag23 (lk 3 rfl rfl) (by first | rfl | simp) (by first | rfl | simp)) ?_
    refine S.sil 26 rfl rfl (fun _ hF => .move (lk 5 rfl rfl)) ?_
    refine S.sil 27 rfl rfl (fun _ hF => .move (lk 7 rfl rfl)) ?_
    refine S.sil 28 rfl rfl (fun _ hF => .callQ ent16 cF (.c (lk 2 rfl rfl) (by first | exact V.sub.refl _ | exact V.sub.forget _ _ _ | exact V.sub.nils_no _ | exact V.sub.nils _) (.c (lk 1 rfl rfl) (by first | exact V.sub.refl _ | exact V.sub.forget _ _ _ | exact V.sub.nils_no _ | exact V.sub.nils _) (.c (lk 0 rfl rfl) (by first | exact V.sub.refl _ | exact V.sub.forget _ _ _ | exact V.sub.nils_no _ | exact V.sub.nils _) .nil))) (Pass_ok _ _ _)) ?_
    refine S.sil 24 rfl rfl (fun _ hF => .move (lk 0 rfl rfl)) ?_
    refine S.sil 29 rfl rfl (fun _ hF => .extract (lk 0 rfl rfl) rfl) ?_
    refine S.sil 30 rfl rfl (fun _ hF => .extract (lk 1 rfl rfl) rfl) ?_
    refine S.new 11 rfl rfl (.nf (.alloc zv23) (by (try simp only [List.set_cons_zero, List.set_cons_succ, List.cons_append, List.nil_append, List.append_nil, List.length_cons, List.length_nil, List.getD_cons_zero, List.getD_cons_succ, Nat.reduceAdd, Nat.reduceMul, Nat.zero_add, V.setAt_nil, V.setAt_st, V.setAt_arr, map_set']) <;> exact rfl) (by (try simp only [List.set_cons_zero, List.set_cons_succ, List.cons_append, List.nil_append, List.append_nil, List.length_cons, List.length_nil, List.getD_cons_zero, List.getD_cons_succ, Nat.reduceAdd, Nat.reduceMul, Nat.zero_add, V.setAt_nil, V.setAt_st, V.setAt_arr, map_set']) <;> exact rfl)) (by first | exact trivial | exact rfl | exact ⟨rfl, rfl⟩) ?_
    refine S.effN rfl rfl (.nf (.store sz23 (lk 0 rfl rfl) (lk 2 rfl rfl) rfl (by first | rfl | simp) rfl (by first | rfl | simp [V.offOf]) (by first | rfl | simp) (by first | rfl | simp)) (by (try simp only [List.set_cons_zero, List.set_cons_succ, List.cons_append, List.nil_append, List.append_nil, List.length_cons, List.length_nil, List.getD_cons_zero, List.getD_cons_succ, Nat.reduceAdd, Nat.reduceMul, Nat.zero_add, V.setAt_nil, V.setAt_st, V.setAt_arr, map_set']) <;> exact rfl) (by (try simp only [List.set_cons_zero, List.set_cons_succ, List.cons_append, List.nil_append, List.append_nil, List.length_cons, List.length_nil, List.getD_cons_zero, List.getD_cons_succ, Nat.reduceAdd, Nat.reduceMul, Nat.zero_add, V.setAt_nil, V.setAt_st, V.setAt_arr, map_set']) <;> exact rfl)) (by first | exact trivial | exact rfl | exact ⟨rfl, rfl⟩) ?_
    refine S.sil 12 rfl rfl (fun _ hF => .assign (lk 1 rfl rfl)) ?_
    refine S.nil ?_
    refine thenQ_n ?_
    refine AWp.seq ?_
    refine AWp.seq ?_
    refine W.reg [0, 1, 2, 3] rfl ?_
    refine S.sil 31 rfl rfl (fun _ hF => .move (lk 13 rfl rfl)) ?_
    first | refine S.sil 32 rfl rfl (fun _ hF => .nv (.fieldAddr lay23 rfl rfl (lk 13 rfl rfl)) (by (try simp only [List.set_cons_zero, List.set_cons_succ, List.cons_append, List.nil_append, List.append_nil, List.length_cons, List.length_nil, List.getD_cons_zero, List.getD_cons_succ, Nat.reduceAdd, Nat.reduceMul, Nat.zero_add, V.setAt_nil, V.setAt_st, V.setAt_arr, map_set']) <;> exact rfl)) ?_ | refine S.sil 32 rfl rfl (fun _ hF => .fieldAddrC lay23 rfl rfl (lk 13 rfl rfl) rfl (by first | rfl | simp)) ?_
    first | refine S.qui 33 rfl rfl (fun _ => .load sz3 ag3 (lk 0 rfl rfl) (by first | rfl | simp) rfl (by first | rfl | simp [V.offOf]) (by first | rfl | (simp; done) | (simp; omega)) (by first | rfl | simp)) ?_ | refine S.sil 33 rfl rfl (fun _ hF => .loadC sz3 ag3 (lk 0 rfl rfl) (by first | rfl | simp) (by first | rfl | simp)) ?_
    refine S.sil 34 rfl rfl (fun _ hF => .neq (lk 2 rfl rfl) (lk 0 rfl rfl)) ?_
    refine S.nil ?_
    refine thenQ_n ?_
    refine AWp.prune (.eq (lk 0 rfl rfl) rfl (.eq (lk 4 rfl rfl) rfl (.eq (lk 5 rfl rfl) rfl (.eq (lk 13 rfl rfl) rfl (.eq (lk 14 rfl rfl) rfl (.eq (lk 15 rfl rfl) rfl (.eq (lk 16 rfl rfl) rfl (.eq (lk 18 rfl rfl) rfl (.eq (lk 19 rfl rfl) rfl .nil))))))))) ?_
    refine AWp.cond (lk 0 rfl rfl) (fun c1 => ?_) (fun c1 => ?_)
    · try simp only [decide_eq_true_eq, decide_eq_false_iff_not, Bool.not_eq_true', Bool.not_eq_false', Bool.and_eq_true, Bool.or_eq_true, Bool.and_eq_false_iff, Bool.or_eq_false_iff, Bool.not_eq_true, Bool.not_eq_false, ite_eq_left_iff] at c1
      refine AWp.seq ?_
      refine W.reg [0, 1, 2, 3, 4, 5, 6, 7, 8, 9] rfl ?_
      refine S.sil 35 rfl rfl (fun _ hF => .move (lk 3 rfl rfl)) ?_
      refine S.sil 36 rfl rfl (fun _ hF => .eql (lk 0 rfl rfl) cI) ?_
      refine S.sil 37 rfl rfl (fun _ hF => .move (lk 0 rfl rfl)) ?_
      refine S.gsil 38 2 37 true rfl rfl rfl (lk 0 rfl rfl) (fun hB _ hF => .move (lk 4 rfl rfl)) ?_
      refine S.gsil 39 2 37 true rfl rfl rfl (lk 1 rfl rfl) (fun hB _ hF => .eql (ifT hB (lk 0 rfl rfl)) cI) ?_
      refine S.sil 40 rfl rfl (fun _ hF => .pickAnd (lk 2 rfl rfl) (fun h => ifT h (lk 0 rfl rfl)) cB) ?_
      refine S.sil 41 rfl rfl (fun _ hF => .move (lk 0 rfl rfl)) ?_
      refine S.gsil 42 6 41 true rfl rfl rfl (lk 0 rfl rfl) (fun hB _ hF => .callQ ent10 cF .nil (awake_ok)) ?_
      refine S.sil 43 rfl rfl (fun _ hF => .pickAnd (lk 1 rfl rfl) (fun h => ifT h (lk 0 rfl rfl)) cB) ?_
      refine S.sil 8 rfl rfl (fun _ hF => .assign (lk 0 rfl rfl)) ?_
      refine S.nil ?_
      refine thenQ_n ?_
      refine AWp.prune (.eq (lk 0 rfl rfl) rfl (.eq (lk 11 rfl rfl) rfl (.eq (lk 12 rfl rfl) rfl (.eq (lk 13 rfl rfl) rfl (.eq (lk 14 rfl rfl) rfl (.eq (lk 16 rfl rfl) rfl (.eq (lk 17 rfl rfl) rfl (.eq (lk 18 rfl rfl) rfl .nil)))))))) ?_
      refine AWp.ret ?_
      refine thenQ_r ?_
      refine end1 rfl (lk 0 rfl rfl) rfl (by first | rfl | simp []) ?_
      simp [writeLock, passLock, c1]
    · try simp only [decide_eq_true_eq, decide_eq_false_iff_not, Bool.not_eq_true', Bool.not_eq_false', Bool.and_eq_true, Bool.or_eq_true, Bool.and_eq_false_iff, Bool.or_eq_false_iff, Bool.not_eq_true, Bool.not_eq_false, ite_eq_left_iff] at c1
      refine AWp.skip ?_
      refine thenQ_n ?_
      refine AWp.seq ?_
      refine AWp.seq ?_
      refine W.regD [0, 1, 2, 3, 4, 5, 6, 7, 8, 9, 10, 11, 12, 13, 14, 15, 16, 17, 18, 19, 20, 21, 22, 23, 24, 25, 26, 27, 28, 29, 30, 31, 32] mixed ?_
      refine S.sil 44 rfl rfl (fun _ hF => .move (lk 3 rfl rfl)) ?_
      refine S.sil 45 rfl rfl (fun _ hF => .eql (lk 0 rfl rfl) cI) ?_
      refine S.sil 46 rfl rfl (fun _ hF => .move (lk 0 rfl rfl)) ?_
      first | refine S.gqui 47 2 46 true rfl rfl rfl (lk 0 rfl rfl) (fun hB _ => .load sz23 ag23 (lk 7 rfl rfl) (by first | rfl | simp) rfl (by first | rfl | simp [V.offOf]) (by first | rfl | (simp; done) | (simp; omega)) (by first | rfl | simp)) ?_ | refine S.gsil 47 2 46 true rfl rfl rfl (lk 0 rfl rfl) (fun hB _ hF => .loadC sz23 ag23 (lk 7 rfl rfl) (by first | rfl | simp) (by first | rfl | simp)) ?_
      first | refine S.gqui 48 2 46 true rfl rfl rfl (lk 1 rfl rfl) (fun hB _ => .load sz23 ag23 (lk 10 rfl rfl) (by first | rfl | simp) rfl (by first | rfl | simp [V.offOf]) (by first | rfl | (simp; done) | (simp; omega)) (by first | rfl | simp)) ?_ | refine S.gsil 48 2 46 true rfl rfl rfl (lk 1 rfl rfl) (fun hB _ hF => .loadC sz23 ag23 (lk 10 rfl rfl) (by first | rfl | simp) (by first | rfl | simp)) ?_
      refine S.gsil 49 2 46 true rfl rfl rfl (lk 2 rfl rfl) (fun hB _ hF => .callQ ent9 cF (.c (ifT hB (lk 1 rfl rfl)) (by first | exact V.sub.refl _ | exact V.sub.forget _ _ _ | exact V.sub.nils_no _ | exact V.sub.nils _) (.c (ifT hB (lk 0 rfl rfl)) (by first | exact V.sub.refl _ | exact V.sub.forget _ _ _ | exact V.sub.nils_no _ | exact V.sub.nils _) .nil)) (Compare_ok _ _)) ?_
      refine S.gsil 50 2 46 true rfl rfl rfl (lk 3 rfl rfl) (fun hB _ hF => .leq (ifT hB (lk 0 rfl rfl)) cI) ?_
      refine S.gsil 51 2 46 true rfl rfl rfl (lk 4 rfl rfl) (fun hB _ hF => .move (ifT hB (lk 0 rfl rfl))) ?_
      first | refine S.gqui2 52 7 51 false rfl rfl rfl (lk 0 rfl rfl) (fun hB _ => .load sz23 ag23 (lk 12 rfl rfl) (by first | rfl | simp) rfl (by first | rfl | simp [V.offOf]) (by first | rfl | (simp; done) | (simp; omega)) (by first | rfl | simp)) ?_ | refine S.gsil2 52 7 51 false rfl rfl rfl (lk 0 rfl rfl) (fun hB _ hF => .loadC sz23 ag23 (lk 12 rfl rfl) (by first | rfl | simp) (by first | rfl | simp)) ?_
      refine S.gsil2 53 7 51 false rfl rfl rfl (lk 1 rfl rfl) (fun hB _ hF => .callQ ent17 cF (.c (ifT hB (lk 0 rfl rfl)) (by first | exact V.sub.refl _ | exact V.sub.forget _ _ _ | exact V.sub.nils_no _ | exact V.sub.nils _) .nil) (Right_ok _)) ?_
      refine S.gsil2 54 7 51 false rfl rfl rfl (lk 2 rfl rfl) (fun hB _ hF => .not (ifT hB (lk 0 rfl rfl))) ?_
      refine S.gsil 55 2 46 true rfl rfl rfl (lk 8 rfl rfl) (fun hB _ hF => .pickOr (ifT hB (lk 3 rfl rfl)) cB (fun h => ifT ⟨hB, h⟩ (lk 0 rfl rfl))) ?_
      refine S.gsil 56 2 46 true rfl rfl rfl (lk 9 rfl rfl) (fun hB _ hF => .move (ifT hB (lk 0 rfl rfl))) ?_
      first | refine S.gsil2 57 12 56 false rfl rfl rfl (lk 0 rfl rfl) (fun hB _ hF => .nv (.fieldAddr lay23 rfl rfl (lk 17 rfl rfl)) (by (try simp only [List.set_cons_zero, List.set_cons_succ, List.cons_append, List.nil_append, List.append_nil, List.length_cons, List.length_nil, List.getD_cons_zero, List.getD_cons_succ, Nat.reduceAdd, Nat.reduceMul, Nat.zero_add, V.setAt_nil, V.setAt_st, V.setAt_arr, map_set']) <;> exact rfl)) ?_ | refine S.gsil2 57 12 56 false rfl rfl rfl (lk 0 rfl rfl) (fun hB _ hF => .fieldAddrC lay23 rfl rfl (lk 17 rfl rfl) rfl (by first | rfl | simp)) ?_
      first | refine S.gqui2 58 12 56 false rfl rfl rfl (lk 1 rfl rfl) (fun hB _ => .load sz3 ag3 (ifT hB (lk 0 rfl rfl)) (by first | rfl | simp) rfl (by first | rfl | simp [V.offOf]) (by first | rfl | (simp; done) | (simp; omega)) (by first | rfl | simp)) ?_ | refine S.gsil2 58 12 56 false rfl rfl rfl (lk 1 rfl rfl) (fun hB _ hF => .loadC sz3 ag3 (ifT hB (lk 0 rfl rfl)) (by first | rfl | simp) (by first | rfl | simp)) ?_
      refine S.gsil2 59 12 56 false rfl rfl rfl (lk 2 rfl rfl) (fun hB _ hF => .move (lk 23 rfl rfl)) ?_
      refine S.gsil2 60 12 56 false rfl rfl rfl (lk 3 rfl rfl) (fun hB _ hF => .neq (ifT hB (lk 1 rfl rfl)) (ifT hB (lk 0 rfl rfl))) ?_
      refine S.gsil 61 2 46 true rfl rfl rfl (lk 14 rfl rfl) (fun hB _ hF => .pickOr (ifT hB (lk 4 rfl rfl)) cB (fun h => ifT ⟨hB, h⟩ (lk 0 rfl rfl))) ?_
      refine S.gsil 62 2 46 true rfl rfl rfl (lk 15 rfl rfl) (fun hB _ hF => .move (ifT hB (lk 0 rfl rfl))) ?_
      first | refine S.gsil2 63 18 62 false rfl rfl rfl (lk 0 rfl rfl) (fun hB _ hF => .nv (.fieldAddr lay23 rfl rfl (lk 23 rfl rfl)) (by (try simp only [List.set_cons_zero, List.set_cons_succ, List.cons_append, List.nil_append, List.append_nil, List.length_cons, List.length_nil, List.getD_cons_zero, List.getD_cons_succ, Nat.reduceAdd, Nat.reduceMul, Nat.zero_add, V.setAt_nil, V.setAt_st, V.setAt_arr, map_set']) <;> exact rfl)) ?_ | refine S.gsil2 63 18 62 false rfl rfl rfl (lk 0 rfl rfl) (fun hB _ hF => .fieldAddrC lay23 rfl rfl (lk 23 rfl rfl) rfl (by first | rfl | simp)) ?_
      first | refine S.gqui2 64 18 62 false rfl rfl rfl (lk 1 rfl rfl) (fun hB _ => .load sz3 ag3 (ifT hB (lk 0 rfl rfl)) (by first | rfl | simp) rfl (by first | rfl | simp [V.offOf]) (by first | rfl | (simp; done) | (simp; omega)) (by first | rfl | simp)) ?_ | refine S.gsil2 64 18 62 false rfl rfl rfl (lk 1 rfl rfl) (fun hB _ hF => .loadC sz3 ag3 (ifT hB (lk 0 rfl rfl)) (by first | rfl | simp) (by first | rfl | simp)) ?_
      first | refine S.gsil2 65 18 62 false rfl rfl rfl (lk 2 rfl rfl) (fun hB _ hF => .nv (.fieldAddr lay23 rfl rfl (lk 27 rfl rfl)) (by (try simp only [List.set_cons_zero, List.set_cons_succ, List.cons_append, List.nil_append, List.append_nil, List.length_cons, List.length_nil, List.getD_cons_zero, List.getD_cons_succ, Nat.reduceAdd, Nat.reduceMul, Nat.zero_add, V.setAt_nil, V.setAt_st, V.setAt_arr, map_set']) <;> exact rfl)) ?_ | refine S.gsil2 65 18 62 false rfl rfl rfl (lk 2 rfl rfl) (fun hB _ hF => .fieldAddrC lay23 rfl rfl (lk 27 rfl rfl) rfl (by first | rfl | simp)) ?_
      first | refine S.gqui2 66 18 62 false rfl rfl rfl (lk 3 rfl rfl) (fun hB _ => .load sz3 ag3 (ifT hB (lk 0 rfl rfl)) (by first | rfl | simp) rfl (by first | rfl | simp [V.offOf]) (by first | rfl | (simp; done) | (simp; omega)) (by first | rfl | simp)) ?_ | refine S.gsil2 66 18 62 false rfl rfl rfl (lk 3 rfl rfl) (fun hB _ hF => .loadC sz3 ag3 (ifT hB (lk 0 rfl rfl)) (by first | rfl | simp) (by first | rfl | simp)) ?_
      refine S.gsil2 67 18 62 false rfl rfl rfl (lk 4 rfl rfl) (fun hB _ hF => .neq (ifT hB (lk 2 rfl rfl)) (ifT hB (lk 0 rfl rfl))) ?_
      refine S.gsil 68 2 46 true rfl rfl rfl (lk 21 rfl rfl) (fun hB _ hF => .pickOr (ifT hB (lk 5 rfl rfl)) cB (fun h => ifT ⟨hB, h⟩ (lk 0 rfl rfl))) ?_
      refine S.gsil 69 2 46 true rfl rfl rfl (lk 22 rfl rfl) (fun hB _ hF => .move (ifT hB (lk 0 rfl rfl))) ?_
      first | refine S.gqui2 70 25 69 false rfl rfl rfl (lk 0 rfl rfl) (fun hB _ => .load sz23 ag23 (lk 32 rfl rfl) (by first | rfl | simp) rfl (by first | rfl | simp [V.offOf]) (by first | rfl | (simp; done) | (simp; omega)) (by first | rfl | simp)) ?_ | refine S.gsil2 70 25 69 false rfl rfl rfl (lk 0 rfl rfl) (fun hB _ hF => .loadC sz23 ag23 (lk 32 rfl rfl) (by first | rfl | simp) (by first | rfl | simp)) ?_
      first | refine S.gqui2 71 25 69 false rfl rfl rfl (lk 1 rfl rfl) (fun hB _ => .load sz23 ag23 (lk 31 rfl rfl) (by first | rfl | simp) rfl (by first | rfl | simp [V.offOf]) (by first | rfl | (simp; done) | (simp; omega)) (by first | rfl | simp)) ?_ | refine S.gsil2 71 25 69 false rfl rfl rfl (lk 1 rfl rfl) (fun hB _ hF => .loadC sz23 ag23 (lk 31 rfl rfl) (by first | rfl | simp) (by first | rfl | simp)) ?_
      refine S.gsil2 72 25 69 false rfl rfl rfl (lk 2 rfl rfl) (fun hB _ hF => .callQ ent11 cF (.c (ifT hB (lk 1 rfl rfl)) (by first | exact V.sub.refl _ | exact V.sub.forget _ _ _ | exact V.sub.nils_no _ | exact V.sub.nils _) (.c (ifT hB (lk 0 rfl rfl)) (by first | exact V.sub.refl _ | exact V.sub.forget _ _ _ | exact V.sub.nils_no _ | exact V.sub.nils _) .nil)) (Join_ok _ _)) ?_
      first | refine S.gqui2 73 25 69 false rfl rfl rfl (lk 3 rfl rfl) (fun hB _ => .load sz23 ag23 (lk 33 rfl rfl) (by first | rfl | simp) rfl (by first | rfl | simp [V.offOf]) (by first | rfl | (simp; done) | (simp; omega)) (by first | rfl | simp)) ?_ | refine S.gsil2 73 25 69 false rfl rfl rfl (lk 3 rfl rfl) (fun hB _ hF => .loadC sz23 ag23 (lk 33 rfl rfl) (by first | rfl | simp) (by first | rfl | simp)) ?_
      refine S.gsil2 74 25 69 false rfl rfl rfl (lk 4 rfl rfl) (fun hB _ hF => .neqV eqt23 (ifT hB (lk 1 rfl rfl)) (ifT hB (lk 0 rfl rfl)) (by first | rfl | simp) (by first | rfl | simp) rfl rfl) ?_
      refine S.gsil 75 2 46 true rfl rfl rfl (lk 28 rfl rfl) (fun hB _ hF => .pickOr (ifT hB (lk 5 rfl rfl)) cB (fun h => ifT ⟨hB, h⟩ (lk 0 rfl rfl))) ?_
      refine S.sil 76 rfl rfl (fun _ hF => .pickAnd (lk 29 rfl rfl) (fun h => ifT h (lk 0 rfl rfl)) cB) ?_
      refine S.nilD (by kernel_rfl) ?_
      refine thenQ_n ?_
      refine AWp.prune (.eq (lk 0 rfl rfl) rfl (.eq (lk 34 rfl rfl) rfl (.eq (lk 35 rfl rfl) rfl (.eq (lk 36 rfl rfl) rfl (.eq (lk 37 rfl rfl) rfl (.eq (lk 38 rfl rfl) rfl (.eq (lk 39 rfl rfl) rfl (.eq (lk 40 rfl rfl) rfl .nil)))))))) ?_
      refine AWp.cond (lk 0 rfl rfl) (fun c2 => ?_) (fun c2 => ?_)
      · try simp only [decide_eq_true_eq, decide_eq_false_iff_not, Bool.not_eq_true', Bool.not_eq_false', Bool.and_eq_true, Bool.or_eq_true, Bool.and_eq_false_iff, Bool.or_eq_false_iff, Bool.not_eq_true, Bool.not_eq_false, ite_eq_left_iff] at c2
        refine AWp.seq ?_
        refine W.reg [0] rfl ?_
        refine S.sil 8 rfl rfl (fun _ hF => .assign cB) ?_
        refine S.nil ?_
        refine thenQ_n ?_
        refine AWp.ret ?_
        refine thenQ_r ?_
        refine end1 rfl (lk 0 rfl rfl) rfl (by first | rfl | simp []) ?_
        exact absurd c2 (lawSteps2 c0 c1)
      · try simp only [decide_eq_true_eq, decide_eq_false_iff_not, Bool.not_eq_true', Bool.not_eq_false', Bool.and_eq_true, Bool.or_eq_true, Bool.and_eq_false_iff, Bool.or_eq_false_iff, Bool.not_eq_true, Bool.not_eq_false, ite_eq_left_iff] at c2
        refine AWp.skip ?_
        refine thenQ_n ?_
        refine AWp.seq ?_
        refine AWp.seq ?_
        refine W.reg [0, 1, 2, 3, 4, 5, 6, 7, 8, 9, 10, 11, 12, 13, 14, 15, 16, 17, 18, 19, 20, 21, 22, 23, 24, 25, 26, 27, 28, 29, 30, 31, 32, 33, 34, 35] rfl ?_
        refine S.sil 77 rfl rfl (fun _ hF => .move (lk 1 rfl rfl)) ?_
        refine S.sil 78 rfl rfl (fun _ hF => .eql (lk 0 rfl rfl) cI) ?_
        refine S.sil 79 rfl rfl (fun _ hF => .move (lk 0 rfl rfl)) ?_
        first | refine S.gqui 80 2 79 true rfl rfl rfl (lk 0 rfl rfl) (fun hB _ => .load sz23 ag23 (lk 5 rfl rfl) (by first | rfl | simp) rfl (by first | rfl | simp [V.offOf]) (by first | rfl | (simp; done) | (simp; omega)) (by first | rfl | simp)) ?_ | refine S.gsil 80 2 79 true rfl rfl rfl (lk 0 rfl rfl) (fun hB _ hF => .loadC sz23 ag23 (lk 5 rfl rfl) (by first | rfl | simp) (by first | rfl | simp)) ?_
        first | refine S.gqui 81 2 79 true rfl rfl rfl (lk 1 rfl rfl) (fun hB _ => .load sz23 ag23 (lk 10 rfl rfl) (by first | rfl | simp) rfl (by first | rfl | simp [V.offOf]) (by first | rfl | (simp; done) | (simp; omega)) (by first | rfl | simp)) ?_ | refine S.gsil 81 2 79 true rfl rfl rfl (lk 1 rfl rfl) (fun hB _ hF => .loadC sz23 ag23 (lk 10 rfl rfl) (by first | rfl | simp) (by first | rfl | simp)) ?_
        refine S.gsil 82 2 79 true rfl rfl rfl (lk 2 rfl rfl) (fun hB _ hF => .callQ ent9 cF (.c (ifT hB (lk 1 rfl rfl)) (by first | exact V.sub.refl _ | exact V.sub.forget _ _ _ | exact V.sub.nils_no _ | exact V.sub.nils _) (.c (ifT hB (lk 0 rfl rfl)) (by first | exact V.sub.refl _ | exact V.sub.forget _ _ _ | exact V.sub.nils_no _ | exact V.sub.nils _) .nil)) (Compare_ok _ _)) ?_
        refine S.gsil 83 2 79 true rfl rfl rfl (lk 3 rfl rfl) (fun hB _ hF => .leq (ifT hB (lk 0 rfl rfl)) cI) ?_
        refine S.gsil 84 2 79 true rfl rfl rfl (lk 4 rfl rfl) (fun hB _ hF => .move (ifT hB (lk 0 rfl rfl))) ?_
        first | refine S.gqui2 85 7 84 false rfl rfl rfl (lk 0 rfl rfl) (fun hB _ => .load sz23 ag23 (lk 10 rfl rfl) (by first | rfl | simp) rfl (by first | rfl | simp [V.offOf]) (by first | rfl | (simp; done) | (simp; omega)) (by first | rfl | simp)) ?_ | refine S.gsil2 85 7 84 false rfl rfl rfl (lk 0 rfl rfl) (fun hB _ hF => .loadC sz23 ag23 (lk 10 rfl rfl) (by first | rfl | simp) (by first | rfl | simp)) ?_
        refine S.gsil2 86 7 84 false rfl rfl rfl (lk 1 rfl rfl) (fun hB _ hF => .callQ ent17 cF (.c (ifT hB (lk 0 rfl rfl)) (by first | exact V.sub.refl _ | exact V.sub.forget _ _ _ | exact V.sub.nils_no _ | exact V.sub.nils _) .nil) (Right_ok _)) ?_
        refine S.gsil2 87 7 84 false rfl rfl rfl (lk 2 rfl rfl) (fun hB _ hF => .not (ifT hB (lk 0 rfl rfl))) ?_
        refine S.gsil 88 2 79 true rfl rfl rfl (lk 8 rfl rfl) (fun hB _ hF => .pickOr (ifT hB (lk 3 rfl rfl)) cB (fun h => ifT ⟨hB, h⟩ (lk 0 rfl rfl))) ?_
        refine S.gsil 89 2 79 true rfl rfl rfl (lk 9 rfl rfl) (fun hB _ hF => .move (ifT hB (lk 0 rfl rfl))) ?_
        first | refine S.gsil2 90 12 89 false rfl rfl rfl (lk 0 rfl rfl) (fun hB _ hF => .nv (.fieldAddr lay23 rfl rfl (lk 15 rfl rfl)) (by (try simp only [List.set_cons_zero, List.set_cons_succ, List.cons_append, List.nil_append, List.append_nil, List.length_cons, List.length_nil, List.getD_cons_zero, List.getD_cons_succ, Nat.reduceAdd, Nat.reduceMul, Nat.zero_add, V.setAt_nil, V.setAt_st, V.setAt_arr, map_set']) <;> exact rfl)) ?_ | refine S.gsil2 90 12 89 false rfl rfl rfl (lk 0 rfl rfl) (fun hB _ hF => .fieldAddrC lay23 rfl rfl (lk 15 rfl rfl) rfl (by first | rfl | simp)) ?_
        first | refine S.gqui2 91 12 89 false rfl rfl rfl (lk 1 rfl rfl) (fun hB _ => .load sz3 ag3 (ifT hB (lk 0 rfl rfl)) (by first | rfl | simp) rfl (by first | rfl | simp [V.offOf]) (by first | rfl | (simp; done) | (simp; omega)) (by first | rfl | simp)) ?_ | refine S.gsil2 91 12 89 false rfl rfl rfl (lk 1 rfl rfl) (fun hB _ hF => .loadC sz3 ag3 (ifT hB (lk 0 rfl rfl)) (by first | rfl | simp) (by first | rfl | simp)) ?_
        first | refine S.gsil2 92 12 89 false rfl rfl rfl (lk 2 rfl rfl) (fun hB _ hF => .nv (.fieldAddr lay23 rfl rfl (lk 21 rfl rfl)) (by (try simp only [List.set_cons_zero, List.set_cons_succ, List.cons_append, List.nil_append, List.append_nil, List.length_cons, List.length_nil, List.getD_cons_zero, List.getD_cons_succ, Nat.reduceAdd, Nat.reduceMul, Nat.zero_add, V.setAt_nil, V.setAt_st, V.setAt_arr, map_set']) <;> exact rfl)) ?_ | refine S.gsil2 92 12 89 false rfl rfl rfl (lk 2 rfl rfl) (fun hB _ hF => .fieldAddrC lay23 rfl rfl (lk 21 rfl rfl) rfl (by first | rfl | simp)) ?_
        first | refine S.gqui2 93 12 89 false rfl rfl rfl (lk 3 rfl rfl) (fun hB _ => .load sz3 ag3 (ifT hB (lk 0 rfl rfl)) (by first | rfl | simp) rfl (by first | rfl | simp [V.offOf]) (by first | rfl | (simp; done) | (simp; omega)) (by first | rfl | simp)) ?_ | refine S.gsil2 93 12 89 false rfl rfl rfl (lk 3 rfl rfl) (fun hB _ hF => .loadC sz3 ag3 (ifT hB (lk 0 rfl rfl)) (by first | rfl | simp) (by first | rfl | simp)) ?_
        refine S.gsil2 94 12 89 false rfl rfl rfl (lk 4 rfl rfl) (fun hB _ hF => .neq (ifT hB (lk 2 rfl rfl)) (ifT hB (lk 0 rfl rfl))) ?_
        refine S.gsil 95 2 79 true rfl rfl rfl (lk 15 rfl rfl) (fun hB _ hF => .pickOr (ifT hB (lk 5 rfl rfl)) cB (fun h => ifT ⟨hB, h⟩ (lk 0 rfl rfl))) ?_
        refine S.gsil 96 2 79 true rfl rfl rfl (lk 16 rfl rfl) (fun hB _ hF => .move (ifT hB (lk 0 rfl rfl))) ?_
        first | refine S.gsil2 97 19 96 false rfl rfl rfl (lk 0 rfl rfl) (fun hB _ hF => .nv (.fieldAddr lay23 rfl rfl (lk 22 rfl rfl)) (by (try simp only [List.set_cons_zero, List.set_cons_succ, List.cons_append, List.nil_append, List.append_nil, List.length_cons, List.length_nil, List.getD_cons_zero, List.getD_cons_succ, Nat.reduceAdd, Nat.reduceMul, Nat.zero_add, V.setAt_nil, V.setAt_st, V.setAt_arr, map_set']) <;> exact rfl)) ?_ | refine S.gsil2 97 19 96 false rfl rfl rfl (lk 0 rfl rfl) (fun hB _ hF => .fieldAddrC lay23 rfl rfl (lk 22 rfl rfl) rfl (by first | rfl | simp)) ?_
        first | refine S.gqui2 98 19 96 false rfl rfl rfl (lk 1 rfl rfl) (fun hB _ => .load sz3 ag3 (ifT hB (lk 0 rfl rfl)) (by first | rfl | simp) rfl (by first | rfl | simp [V.offOf]) (by first | rfl | (simp; done) | (simp; omega)) (by first | rfl | simp)) ?_ | refine S.gsil2 98 19 96 false rfl rfl rfl (lk 1 rfl rfl) (fun hB _ hF => .loadC sz3 ag3 (ifT hB (lk 0 rfl rfl)) (by first | rfl | simp) (by first | rfl | simp)) ?_
        refine S.gsil2 99 19 96 false rfl rfl rfl (lk 2 rfl rfl) (fun hB _ hF => .move (lk 29 rfl rfl)) ?_
        refine S.gsil2 100 19 96 false rfl rfl rfl (lk 3 rfl rfl) (fun hB _ hF => .neq (ifT hB (lk 1 rfl rfl)) (ifT hB (lk 0 rfl rfl))) ?_
        refine S.gsil 101 2 79 true rfl rfl rfl (lk 21 rfl rfl) (fun hB _ hF => .pickOr (ifT hB (lk 4 rfl rfl)) cB (fun h => ifT ⟨hB, h⟩ (lk 0 rfl rfl))) ?_
        refine S.gsil 102 2 79 true rfl rfl rfl (lk 22 rfl rfl) (fun hB _ hF => .move (ifT hB (lk 0 rfl rfl))) ?_
        refine S.gsil2 103 25 102 false rfl rfl rfl (lk 0 rfl rfl) (fun hB _ hF => .move (lk 29 rfl rfl)) ?_
        refine S.gsil2 104 25 102 false rfl rfl rfl (lk 1 rfl rfl) (fun hB _ hF => .eql (ifT hB (lk 0 rfl rfl)) cI) ?_
        refine S.gsil2 105 25 102 false rfl rfl rfl (lk 2 rfl rfl) (fun hB _ hF => .move (ifT hB (lk 0 rfl rfl))) ?_
        first | refine S.gqui2 106 28 105 true rfl rfl rfl (lk 0 rfl rfl) (fun hB _ => .load sz23 ag23 (lk 31 rfl rfl) (by first | rfl | simp) rfl (by first | rfl | simp [V.offOf]) (by first | rfl | (simp; done) | (simp; omega)) (by first | rfl | simp)) ?_ | refine S.gsil2 106 28 105 true rfl rfl rfl (lk 0 rfl rfl) (fun hB _ hF => .loadC sz23 ag23 (lk 31 rfl rfl) (by first | rfl | simp) (by first | rfl | simp)) ?_
        first | refine S.gqui2 107 28 105 true rfl rfl rfl (lk 1 rfl rfl) (fun hB _ => .load sz23 ag23 (lk 34 rfl rfl) (by first | rfl | simp) rfl (by first | rfl | simp [V.offOf]) (by first | rfl | (simp; done) | (simp; omega)) (by first | rfl | simp)) ?_ | refine S.gsil2 107 28 105 true rfl rfl rfl (lk 1 rfl rfl) (fun hB _ hF => .loadC sz23 ag23 (lk 34 rfl rfl) (by first | rfl | simp) (by first | rfl | simp)) ?_
        refine S.gsil2 108 28 105 true rfl rfl rfl (lk 2 rfl rfl) (fun hB _ hF => .callQ ent9 cF (.c (ifT hB (lk 1 rfl rfl)) (by first | exact V.sub.refl _ | exact V.sub.forget _ _ _ | exact V.sub.nils_no _ | exact V.sub.nils _) (.c (ifT hB (lk 0 rfl rfl)) (by first | exact V.sub.refl _ | exact V.sub.forget _ _ _ | exact V.sub.nils_no _ | exact V.sub.nils _) .nil)) (Compare_ok _ _)) ?_
        refine S.gsil2 109 28 105 true rfl rfl rfl (lk 3 rfl rfl) (fun hB _ hF => .leq (ifT hB (lk 0 rfl rfl)) cI) ?_
        refine S.gsil2 110 25 102 false rfl rfl rfl (lk 7 rfl rfl) (fun hB _ hF => .pickAnd (ifT hB (lk 4 rfl rfl)) (fun h => ifT ⟨hB, h⟩ (lk 0 rfl rfl)) cB) ?_
        refine S.gsil 111 2 79 true rfl rfl rfl (lk 31 rfl rfl) (fun hB _ hF => .pickOr (ifT hB (lk 8 rfl rfl)) cB (fun h => ifT ⟨hB, h⟩ (lk 0 rfl rfl))) ?_
        refine S.sil 112 rfl rfl (fun _ hF => .pickAnd (lk 32 rfl rfl) (fun h => ifT h (lk 0 rfl rfl)) cB) ?_
        refine S.nil ?_
        refine thenQ_n ?_
        refine AWp.prune (.eq (lk 0 rfl rfl) rfl (.eq (lk 41 rfl rfl) rfl .nil)) ?_
        refine AWp.cond (lk 0 rfl rfl) (fun c3 => ?_) (fun c3 => ?_)
        · try simp only [decide_eq_true_eq, decide_eq_false_iff_not, Bool.not_eq_true', Bool.not_eq_false', Bool.and_eq_true, Bool.or_eq_true, Bool.and_eq_false_iff, Bool.or_eq_false_iff, Bool.not_eq_true, Bool.not_eq_false, ite_eq_left_iff] at c3
          refine AWp.seq ?_
          refine W.reg [0] rfl ?_
          refine S.sil 8 rfl rfl (fun _ hF => .assign cB) ?_
          refine S.nil ?_
          refine thenQ_n ?_
          refine AWp.ret ?_
          refine thenQ_r ?_
          refine end1 rfl (lk 0 rfl rfl) rfl (by first | rfl | simp []) ?_
          exact absurd c3 (lawSteps3 c0 c1)
        · try simp only [decide_eq_true_eq, decide_eq_false_iff_not, Bool.not_eq_true', Bool.not_eq_false', Bool.and_eq_true, Bool.or_eq_true, Bool.and_eq_false_iff, Bool.or_eq_false_iff, Bool.not_eq_true, Bool.not_eq_false, ite_eq_left_iff] at c3
          refine AWp.skip ?_
          refine thenQ_n ?_
          refine AWp.seq ?_
          refine W.reg [0, 1] rfl ?_
          refine S.sil 113 rfl rfl (fun _ hF => .callQ ent10 cF .nil (awake_ok)) ?_
          refine S.sil 8 rfl rfl (fun _ hF => .assign (lk 0 rfl rfl)) ?_
          refine S.nil ?_
          refine thenQ_n ?_
          refine AWp.ret ?_
          refine end1 rfl (lk 0 rfl rfl) rfl (by first | rfl | simp []) ?_
          rfl

theorem LockPasses_ok (h v : Int) (xs : List Int) : PureC Pg 7 [.int .i64 h, .int .i64 v, .sl 1 .no (xs.map (V.int .i64))] (.bool true) := by
  refine PureC.of (CallSpec.of_body 113 0 Try.func7 rfl rfl rfl (by simp) ?_) (by simp []) (by simp [])
  refine AWp.seq ?_
  refine W.reg [0] rfl ?_
  refine S.sil 6 rfl rfl (fun _ hF => .assign cB) ?_
  refine S.nil ?_
  refine thenQ_n ?_
  refine AWp.seq ?_
  refine W.reg [0, 1, 2, 3, 4, 5, 6, 7, 8] rfl ?_
  refine S.sil 17 rfl rfl (fun _ hF => .move (lk 1 rfl rfl)) ?_
  refine S.sil 18 rfl rfl (fun _ hF => .move (lk 3 rfl rfl)) ?_
  refine S.sil 19 rfl rfl (fun _ hF => .callQ ent14 cF (.c (lk 1 rfl rfl) (by first | exact V.sub.refl _ | exact V.sub.forget _ _ _ | exact V.sub.nils_no _ | exact V.sub.nils _) (.c (lk 0 rfl rfl) (by first | exact V.sub.refl _ | exact V.sub.forget _ _ _ | exact V.sub.nils_no _ | exact V.sub.nils _) .nil)) (New_ok _ _)) ?_
  refine S.sil 16 rfl rfl (fun _ hF => .move (lk 0 rfl rfl)) ?_
  refine S.sil 20 rfl rfl (fun _ hF => .extract (lk 0 rfl rfl) rfl) ?_
  refine S.sil 21 rfl rfl (fun _ hF => .extract (lk 1 rfl rfl) rfl) ?_
  refine S.new 7 rfl rfl (.nf (.alloc zv23) (by (try simp only [List.set_cons_zero, List.set_cons_succ, List.cons_append, List.nil_append, List.append_nil, List.length_cons, List.length_nil, List.getD_cons_zero, List.getD_cons_succ, Nat.reduceAdd, Nat.reduceMul, Nat.zero_add, V.setAt_nil, V.setAt_st, V.setAt_arr, map_set']) <;> exact rfl) (by (try simp only [List.set_cons_zero, List.set_cons_succ, List.cons_append, List.nil_append, List.append_nil, List.length_cons, List.length_nil, List.getD_cons_zero, List.getD_cons_succ, Nat.reduceAdd, Nat.reduceMul, Nat.zero_add, V.setAt_nil, V.setAt_st, V.setAt_arr, map_set']) <;> exact rfl)) (by first | exact trivial | exact rfl | exact ⟨rfl, rfl⟩) ?_
  refine S.effN rfl rfl (.nf (.store sz23 (lk 0 rfl rfl) (lk 2 rfl rfl) rfl (by first | rfl | simp) rfl (by first | rfl | simp [V.offOf]) (by first | rfl | simp) (by first | rfl | simp)) (by (try simp only [List.set_cons_zero, List.set_cons_succ, List.cons_append, List.nil_append, List.append_nil, List.length_cons, List.length_nil, List.getD_cons_zero, List.getD_cons_succ, Nat.reduceAdd, Nat.reduceMul, Nat.zero_add, V.setAt_nil, V.setAt_st, V.setAt_arr, map_set']) <;> exact rfl) (by (try simp only [List.set_cons_zero, List.set_cons_succ, List.cons_append, List.nil_append, List.append_nil, List.length_cons, List.length_nil, List.getD_cons_zero, List.getD_cons_succ, Nat.reduceAdd, Nat.reduceMul, Nat.zero_add, V.setAt_nil, V.setAt_st, V.setAt_arr, map_set']) <;> exact rfl)) (by first | exact trivial | exact rfl | exact ⟨rfl, rfl⟩) ?_
  refine S.sil 8 rfl rfl (fun _ hF => .assign (lk 1 rfl rfl)) ?_
  refine S.nil ?_
  refine thenQ_n ?_
  refine AWp.seq ?_
  refine AWp.seq ?_
  refine W.reg [0, 1, 2, 3, 4, 5, 6] rfl ?_
  refine S.sil 22 rfl rfl (fun _ hF => .move (lk 0 rfl rfl)) ?_
  refine S.sil 23 rfl rfl (fun _ hF => .neq (lk 0 rfl rfl) cI) ?_
  refine S.sil 24 rfl rfl (fun _ hF => .move (lk 0 rfl rfl)) ?_
  refine S.gsil 25 2 24 false rfl rfl rfl (lk 0 rfl rfl) (fun hB _ hF => .move (lk 14 rfl rfl)) ?_
  first | refine S.gsil 26 2 24 false rfl rfl rfl (lk 1 rfl rfl) (fun hB _ hF => .len sli42 (ifT hB (lk 0 rfl rfl)) (by first | exact V.sub.refl _ | exact V.sub.forget _ _ _ | exact V.sub.nils_no _ | exact V.sub.nils _)) ?_ | refine S.gsil 26 2 24 false rfl rfl rfl (lk 1 rfl rfl) (fun hB _ hF => .lenO sli42 (ifT hB (lk 0 rfl rfl))) ?_
  refine S.gsil 27 2 24 false rfl rfl rfl (lk 2 rfl rfl) (fun hB _ hF => .gtr (ifT hB (lk 0 rfl rfl)) cI) ?_
  refine S.sil 28 rfl rfl (fun _ hF => .pickOr (lk 3 rfl rfl) cB (fun h => ifT h (lk 0 rfl rfl))) ?_
  refine S.nil ?_
  refine thenQ_n ?_
  refine AWp.prune (.eq (lk 0 rfl rfl) rfl (.eq (lk 8 rfl rfl) rfl (.eq (lk 15 rfl rfl) rfl (.eq (lk 17 rfl rfl) rfl (.eq (lk 18 rfl rfl) rfl .nil))))) ?_
  refine AWp.cond (lk 0 rfl rfl) (fun c0 => ?_) (fun c0 => ?_)
  · try simp only [decide_eq_true_eq, decide_eq_false_iff_not, Bool.not_eq_true', Bool.not_eq_false', Bool.and_eq_true, Bool.or_eq_true, Bool.and_eq_false_iff, Bool.or_eq_false_iff, Bool.not_eq_true, Bool.not_eq_false, ite_eq_left_iff] at c0
    refine AWp.seq ?_
    refine W.reg [0, 1] rfl ?_
    refine S.sil 29 rfl rfl (fun _ hF => .callQ ent10 cF .nil (awake_ok)) ?_
    refine S.sil 6 rfl rfl (fun _ hF => .assign (lk 0 rfl rfl)) ?_
    refine S.nil ?_
    refine thenQ_n ?_
    refine AWp.ret ?_
    refine thenQ_r ?_
    refine end1 rfl (lk 0 rfl rfl) rfl (by first | rfl | simp []) ?_
    rfl
  · try simp only [decide_eq_true_eq, decide_eq_false_iff_not, Bool.not_eq_true', Bool.not_eq_false', Bool.and_eq_true, Bool.or_eq_true, Bool.and_eq_false_iff, Bool.or_eq_false_iff, Bool.not_eq_true, Bool.not_eq_false, ite_eq_left_iff] at c0
    obtain ⟨hR, hN, hnew⟩ := new_ok c0.1
    have hl : xs.length ≤ 30 := by have := c0.2; simp at this; omega
    refine AWp.skip ?_
    refine thenQ_n ?_
    refine AWp.seq ?_
    refine AWp.seq ?_
    refine W.reg [0, 1, 2] rfl ?_
    refine S.sil 30 rfl rfl (fun _ hF => .move (lk 4 rfl rfl)) ?_
    first | refine S.sil 31 rfl rfl (fun _ hF => .len sli42 (lk 0 rfl rfl) (by first | exact V.sub.refl _ | exact V.sub.forget _ _ _ | exact V.sub.nils_no _ | exact V.sub.nils _)) ?_ | refine S.sil 31 rfl rfl (fun _ hF => .lenO sli42 (lk 0 rfl rfl)) ?_
    refine S.sil 32 rfl rfl (fun _ hF => .move cI) ?_
    refine S.nil ?_
    refine thenQ_n ?_
    refine AWp.block ?_
    refine AWp.loopS (ι := {p : Nat × Int // p.1 ≤ xs.length ∧ isR p.2 = true}) (fun ⟨⟨i, k⟩, _⟩ => ⟨[(1, .int .i64 v), (7, .ptr 0 [] 0), (30, .sl 1 .no (xs.map (V.int .i64))), (31, .int .i64 ((xs.length : Nat) : Int)), (32, .int .i64 (i : Int))], [.cells (encLock ⟨(i : Int), 0, k, v⟩)]⟩) (fun ⟨⟨i, k⟩, _⟩ => xs.length - i) ⟨⟨0, h⟩, by simp, hR⟩ ?_ ?_
    · exact Wk.to 1 (by decide) (congrArg (fun l => [AObj.cells (encLock l)]) hnew) (.eq (lk 6 rfl rfl) rfl (.eq (lk 4 rfl rfl) rfl (.eq (lk 2 rfl rfl) rfl (.eq (lk 1 rfl rfl) (by simp) (.eq (lk 0 rfl rfl) rfl .nil))))) (by first | rfl | simp [envLt, V.lt]) (by first | rfl | simp [objsLt, AObj.lt, V.lt, -List.map_set])
    · rintro ⟨⟨i, k⟩, hi1, hi2⟩
      have hi1 : i ≤ xs.length := hi1
      refine AWp.seq ?_
      refine W.reg [0] rfl ?_
      refine S.sil 33 rfl rfl (fun _ hF => .lss (lk 4 rfl rfl) (lk 3 rfl rfl)) ?_
      refine S.nil ?_
      refine thenQ_n ?_
      refine AWp.seq ?_
      refine AWp.cond (lk 0 rfl rfl) (fun c1 => ?_) (fun c1 => ?_)
      · try simp only [decide_eq_true_eq, decide_eq_false_iff_not, Bool.not_eq_true', Bool.not_eq_false', Bool.and_eq_true, Bool.or_eq_true, Bool.and_eq_false_iff, Bool.or_eq_false_iff, Bool.not_eq_true, Bool.not_eq_false, ite_eq_left_iff] at c1
        have hu : (xs.map (V.int .i64))[((i : Nat) : Int).toNat]? = some (.int .i64 (xs.getD i 0)) := map_get (V.int .i64) 0 (by omega)
        refine AWp.skip ?_
        refine thenQ_n ?_
        refine AWp.seq ?_
        refine AWp.block ?_
        refine AWp.seq ?_
        refine W.reg [0, 1, 2, 3, 4] rfl ?_
        refine S.sil 34 rfl rfl (fun _ hF => .move (lk 5 rfl rfl)) ?_
        first | refine S.sil 35 rfl rfl (fun _ hF => .indexAddrS sli42 (lk 4 rfl rfl) (lk 6 rfl rfl) (by omega) (by simp; omega) hu) ?_ | refine S.sil 35 rfl rfl (fun _ hF => .nv (.indexAddrO sli42 (lk 4 rfl rfl) (lk 6 rfl rfl) (by omega) (by simp; omega)) (by (try simp only [List.set_cons_zero, List.set_cons_succ, List.cons_append, List.nil_append, List.append_nil, List.length_cons, List.length_nil, List.getD_cons_zero, List.getD_cons_succ, Nat.reduceAdd, Nat.reduceMul, Nat.zero_add, V.setAt_nil, V.setAt_st, V.setAt_arr, map_set']) <;> exact rfl)) ?_
        first | refine S.qui 36 rfl rfl (fun _ => .load sz3 ag3 (lk 0 rfl rfl) (by first | rfl | simp) rfl (by first | rfl | simp [V.offOf]) (by first | rfl | (simp; done) | (simp; omega)) (by first | rfl | simp)) ?_ | refine S.sil 36 rfl rfl (fun _ hF => .loadC sz3 ag3 (lk 0 rfl rfl) (by first | rfl | simp) (by first | rfl | simp)) ?_
        refine S.sil 9 rfl rfl (fun _ hF => .assign (lk 2 rfl rfl)) ?_
        refine S.sil 10 rfl rfl (fun _ hF => .assign (lk 1 rfl rfl)) ?_
        refine S.nil ?_
        refine thenQ_n ?_
        refine AWp.seq ?_
        refine W.reg [0, 1, 2] rfl ?_
        first | refine S.sil 37 rfl rfl (fun _ hF => .nv (.fieldAddr lay23 rfl rfl (lk 7 rfl rfl)) (by (try simp only [List.set_cons_zero, List.set_cons_succ, List.cons_append, List.nil_append, List.append_nil, List.length_cons, List.length_nil, List.getD_cons_zero, List.getD_cons_succ, Nat.reduceAdd, Nat.reduceMul, Nat.zero_add, V.setAt_nil, V.setAt_st, V.setAt_arr, map_set']) <;> exact rfl)) ?_ | refine S.sil 37 rfl rfl (fun _ hF => .fieldAddrC lay23 rfl rfl (lk 7 rfl rfl) rfl (by first | rfl | simp)) ?_
        first | refine S.qui 38 rfl rfl (fun _ => .load sz3 ag3 (lk 0 rfl rfl) (by first | rfl | simp) rfl (by first | rfl | simp [V.offOf]) (by first | rfl | (simp; done) | (simp; omega)) (by first | rfl | simp)) ?_ | refine S.sil 38 rfl rfl (fun _ hF => .loadC sz3 ag3 (lk 0 rfl rfl) (by first | rfl | simp) (by first | rfl | simp)) ?_
        refine S.sil 11 rfl rfl (fun _ hF => .assign (lk 0 rfl rfl)) ?_
        refine S.nil ?_
        refine thenQ_n ?_
        refine AWp.seq ?_
        refine W.reg [0, 1, 2, 3, 4, 5, 6, 7, 8, 9] rfl ?_
        first | refine S.qui 40 rfl rfl (fun _ => .load sz23 ag23 (lk 10 rfl rfl) (by first | rfl | simp) rfl (by first | rfl | simp [V.offOf]) (by first | rfl | (simp; done) | (simp; omega)) (by first | rfl | simp)) ?_ | refine S.sil 40 rfl rfl (fun _ hF => .loadC sz23 ag23 (lk 10 rfl rfl) (by first | rfl | simp) (by first | rfl | simp)) ?_
        refine S.sil 41 rfl rfl (fun _ hF => .move (lk 1 rfl rfl)) ?_
        refine S.sil 42 rfl rfl (fun _ hF => .move (lk 5 rfl rfl)) ?_
        refine S.sil 43 rfl rfl (fun _ hF => .callQ ent16 cF (.c (lk 2 rfl rfl) (by first | exact V.sub.refl _ | exact V.sub.forget _ _ _ | exact V.sub.nils_no _ | exact V.sub.nils _) (.c (lk 1 rfl rfl) (by first | exact V.sub.refl _ | exact V.sub.forget _ _ _ | exact V.sub.nils_no _ | exact V.sub.nils _) (.c (lk 0 rfl rfl) (by first | exact V.sub.refl _ | exact V.sub.forget _ _ _ | exact V.sub.nils_no _ | exact V.sub.nils _) .nil))) (Pass_ok _ _ _)) ?_
        refine S.sil 39 rfl rfl (fun _ hF => .move (lk 0 rfl rfl)) ?_
        refine S.sil 44 rfl rfl (fun _ hF => .extract (lk 0 rfl rfl) rfl) ?_
        refine S.sil 45 rfl rfl (fun _ hF => .extract (lk 1 rfl rfl) rfl) ?_
        refine S.new 12 rfl rfl (.nf (.alloc zv23) (by (try simp only [List.set_cons_zero, List.set_cons_succ, List.cons_append, List.nil_append, List.append_nil, List.length_cons, List.length_nil, List.getD_cons_zero, List.getD_cons_succ, Nat.reduceAdd, Nat.reduceMul, Nat.zero_add, V.setAt_nil, V.setAt_st, V.setAt_arr, map_set']) <;> exact rfl) (by (try simp only [List.set_cons_zero, List.set_cons_succ, List.cons_append, List.nil_append, List.append_nil, List.length_cons, List.length_nil, List.getD_cons_zero, List.getD_cons_succ, Nat.reduceAdd, Nat.reduceMul, Nat.zero_add, V.setAt_nil, V.setAt_st, V.setAt_arr, map_set']) <;> exact rfl)) (by first | exact trivial | exact rfl | exact ⟨rfl, rfl⟩) ?_
        refine S.effN rfl rfl (.nf (.store sz23 (lk 0 rfl rfl) (lk 2 rfl rfl) rfl (by first | rfl | simp) rfl (by first | rfl | simp [V.offOf]) (by first | rfl | simp) (by first | rfl | simp)) (by (try simp only [List.set_cons_zero, List.set_cons_succ, List.cons_append, List.nil_append, List.append_nil, List.length_cons, List.length_nil, List.getD_cons_zero, List.getD_cons_succ, Nat.reduceAdd, Nat.reduceMul, Nat.zero_add, V.setAt_nil, V.setAt_st, V.setAt_arr, map_set']) <;> exact rfl) (by (try simp only [List.set_cons_zero, List.set_cons_succ, List.cons_append, List.nil_append, List.append_nil, List.length_cons, List.length_nil, List.getD_cons_zero, List.getD_cons_succ, Nat.reduceAdd, Nat.reduceMul, Nat.zero_add, V.setAt_nil, V.setAt_st, V.setAt_arr, map_set']) <;> exact rfl)) (by first | exact trivial | exact rfl | exact ⟨rfl, rfl⟩) ?_
        refine S.sil 13 rfl rfl (fun _ hF => .assign (lk 1 rfl rfl)) ?_
        refine S.nil ?_
        refine thenQ_n ?_
        refine AWp.prune (.eq (lk 0 rfl rfl) rfl (.eq (lk 1 rfl rfl) rfl (.eq (lk 9 rfl rfl) rfl (.eq (lk 12 rfl rfl) rfl (.eq (lk 13 rfl rfl) rfl (.eq (lk 18 rfl rfl) rfl (.eq (lk 19 rfl rfl) rfl (.eq (lk 20 rfl rfl) rfl (.eq (lk 21 rfl rfl) rfl (.eq (lk 22 rfl rfl) rfl .nil)))))))))) ?_
        refine AWp.seq ?_
        refine AWp.seq ?_
        refine W.reg [0, 1, 2, 3, 4, 5] rfl ?_
        refine S.sil 46 rfl rfl (fun _ hF => .move (lk 3 rfl rfl)) ?_
        refine S.sil 47 rfl rfl (fun _ hF => .lss (lk 0 rfl rfl) cI) ?_
        refine S.sil 48 rfl rfl (fun _ hF => .move (lk 0 rfl rfl)) ?_
        refine S.gsil 49 2 48 false rfl rfl rfl (lk 0 rfl rfl) (fun hB _ hF => .move (lk 6 rfl rfl)) ?_
        refine S.gsil 50 2 48 false rfl rfl rfl (lk 1 rfl rfl) (fun hB _ hF => .gtr (ifT hB (lk 0 rfl rfl)) cI) ?_
        refine S.sil 51 rfl rfl (fun _ hF => .pickOr (lk 2 rfl rfl) cB (fun h => ifT h (lk 0 rfl rfl))) ?_
        refine S.nil ?_
        refine thenQ_n ?_
        refine AWp.cond (lk 0 rfl rfl) (fun c2 => ?_) (fun c2 => ?_)
        · try simp only [decide_eq_true_eq, decide_eq_false_iff_not, Bool.not_eq_true', Bool.not_eq_false', Bool.and_eq_true, Bool.or_eq_true, Bool.and_eq_false_iff, Bool.or_eq_false_iff, Bool.not_eq_true, Bool.not_eq_false, ite_eq_left_iff] at c2
          refine AWp.seq ?_
          refine W.reg [0, 1, 2, 3, 4, 5, 6, 7, 8, 9, 10] rfl ?_
          refine S.sil 52 rfl rfl (fun _ hF => .move (lk 6 rfl rfl)) ?_
          refine S.sil 53 rfl rfl (fun _ hF => .eql (lk 0 rfl rfl) cI) ?_
          refine S.sil 54 rfl rfl (fun _ hF => .move (lk 0 rfl rfl)) ?_
          first | refine S.gqui 55 2 54 true rfl rfl rfl (lk 0 rfl rfl) (fun hB _ => .load sz23 ag23 (lk 10 rfl rfl) (by first | rfl | simp) rfl (by first | rfl | simp [V.offOf]) (by first | rfl | (simp; done) | (simp; omega)) (by first | rfl | simp)) ?_ | refine S.gsil 55 2 54 true rfl rfl rfl (lk 0 rfl rfl) (fun hB _ hF => .loadC sz23 ag23 (lk 10 rfl rfl) (by first | rfl | simp) (by first | rfl | simp)) ?_
          refine S.gsil 56 2 54 true rfl rfl rfl (lk 1 rfl rfl) (fun hB _ hF => .buildStL lay23 zv23 .nil rfl rfl) ?_
          refine S.gsil 57 2 54 true rfl rfl rfl (lk 2 rfl rfl) (fun hB _ hF => .eqlV eqt23 (ifT hB (lk 1 rfl rfl)) (ifT hB (lk 0 rfl rfl)) (by first | rfl | simp) (by first | rfl | simp) rfl rfl) ?_
          refine S.sil 58 rfl rfl (fun _ hF => .pickAnd (lk 3 rfl rfl) (fun h => ifT h (lk 0 rfl rfl)) cB) ?_
          refine S.sil 59 rfl rfl (fun _ hF => .move (lk 0 rfl rfl)) ?_
          refine S.gsil 60 7 59 true rfl rfl rfl (lk 0 rfl rfl) (fun hB _ hF => .callQ ent10 cF .nil (awake_ok)) ?_
          refine S.sil 61 rfl rfl (fun _ hF => .pickAnd (lk 1 rfl rfl) (fun h => ifT h (lk 0 rfl rfl)) cB) ?_
          refine S.sil 6 rfl rfl (fun _ hF => .assign (lk 0 rfl rfl)) ?_
          refine S.nil ?_
          refine thenQ_n ?_
          refine AWp.prune (.eq (lk 0 rfl rfl) rfl (.eq (lk 17 rfl rfl) rfl (.eq (lk 18 rfl rfl) rfl (.eq (lk 19 rfl rfl) rfl (.eq (lk 20 rfl rfl) rfl (.eq (lk 21 rfl rfl) rfl (.eq (lk 22 rfl rfl) rfl (.eq (lk 23 rfl rfl) rfl (.eq (lk 24 rfl rfl) rfl (.eq (lk 25 rfl rfl) rfl (.eq (lk 26 rfl rfl) rfl .nil))))))))))) ?_
          refine AWp.ret ?_
          refine thenQ_r ?_
          refine blockQ_r ?_
          refine thenQ_r ?_
          refine thenQ_r ?_
          refine blockQ_r ?_
          refine thenQ_r ?_
          refine end1 rfl (lk 0 rfl rfl) rfl (by first | rfl | simp []) ?_
          exact congrArg V.bool (lawPasses1 _ c2)
        · try simp only [decide_eq_true_eq, decide_eq_false_iff_not, Bool.not_eq_true', Bool.not_eq_false', Bool.and_eq_true, Bool.or_eq_true, Bool.and_eq_false_iff, Bool.or_eq_false_iff, Bool.not_eq_true, Bool.not_eq_false, ite_eq_left_iff] at c2
          have hk : isR (xs.getD i 0) = true := isR_iff.2 (by omega)
          have hp := pass_some (v := v) (k := k) (i := (i : Int)) (by omega) (by omega) hk
          refine AWp.skip ?_
          refine thenQ_n ?_
          refine AWp.seq ?_
          refine W.reg [0, 1, 2, 3, 4, 5, 6, 7, 8, 9] rfl ?_
          first | refine S.qui 63 rfl rfl (fun _ => .load sz23 ag23 (lk 7 rfl rfl) (by first | rfl | simp) rfl (by first | rfl | simp [V.offOf]) (by first | rfl | (simp; done) | (simp; omega)) (by first | rfl | simp)) ?_ | refine S.sil 63 rfl rfl (fun _ hF => .loadC sz23 ag23 (lk 7 rfl rfl) (by first | rfl | simp) (by first | rfl | simp)) ?_
          refine S.sil 64 rfl rfl (fun _ hF => .move (lk 9 rfl rfl)) ?_
          refine S.sil 65 rfl rfl (fun _ hF => .move (lk 13 rfl rfl)) ?_
          refine S.sil 66 rfl rfl (fun _ hF => .callQ ent15 cF (.c (lk 2 rfl rfl) (by first | exact V.sub.refl _ | exact V.sub.forget _ _ _ | exact V.sub.nils_no _ | exact V.sub.nils _) (.c (lk 1 rfl rfl) (by first | exact V.sub.refl _ | exact V.sub.forget _ _ _ | exact V.sub.nils_no _ | exact V.sub.nils _) (.c (lk 0 rfl rfl) (by first | exact V.sub.refl _ | exact V.sub.forget _ _ _ | exact V.sub.nils_no _ | exact V.sub.nils _) .nil))) (Write_ok _ _ _)) ?_
          refine S.sil 62 rfl rfl (fun _ hF => .move (lk 0 rfl rfl)) ?_
          refine S.sil 67 rfl rfl (fun _ hF => .extract (lk 0 rfl rfl) rfl) ?_
          refine S.sil 68 rfl rfl (fun _ hF => .extract (lk 1 rfl rfl) rfl) ?_
          refine S.new 14 rfl rfl (.nf (.alloc zv23) (by (try simp only [List.set_cons_zero, List.set_cons_succ, List.cons_append, List.nil_append, List.append_nil, List.length_cons, List.length_nil, List.getD_cons_zero, List.getD_cons_succ, Nat.reduceAdd, Nat.reduceMul, Nat.zero_add, V.setAt_nil, V.setAt_st, V.setAt_arr, map_set']) <;> exact rfl) (by (try simp only [List.set_cons_zero, List.set_cons_succ, List.cons_append, List.nil_append, List.append_nil, List.length_cons, List.length_nil, List.getD_cons_zero, List.getD_cons_succ, Nat.reduceAdd, Nat.reduceMul, Nat.zero_add, V.setAt_nil, V.setAt_st, V.setAt_arr, map_set']) <;> exact rfl)) (by first | exact trivial | exact rfl | exact ⟨rfl, rfl⟩) ?_
          refine S.effN rfl rfl (.nf (.store sz23 (lk 0 rfl rfl) (lk 2 rfl rfl) rfl (by first | rfl | simp) rfl (by first | rfl | simp [V.offOf]) (by first | rfl | simp) (by first | rfl | simp)) (by (try simp only [List.set_cons_zero, List.set_cons_succ, List.cons_append, List.nil_append, List.append_nil, List.length_cons, List.length_nil, List.getD_cons_zero, List.getD_cons_succ, Nat.reduceAdd, Nat.reduceMul, Nat.zero_add, V.setAt_nil, V.setAt_st, V.setAt_arr, map_set']) <;> exact rfl) (by (try simp only [List.set_cons_zero, List.set_cons_succ, List.cons_append, List.nil_append, List.append_nil, List.length_cons, List.length_nil, List.getD_cons_zero, List.getD_cons_succ, Nat.reduceAdd, Nat.reduceMul, Nat.zero_add, V.setAt_nil, V.setAt_st, V.setAt_arr, map_set']) <;> exact rfl)) (by first | exact trivial | exact rfl | exact ⟨rfl, rfl⟩) ?_
          refine S.sil 15 rfl rfl (fun _ hF => .assign (lk 1 rfl rfl)) ?_
          refine S.nil ?_
          refine thenQ_n ?_
          refine AWp.prune (.eq (lk 0 rfl rfl) rfl (.eq (lk 15 rfl rfl) rfl (.eq (lk 16 rfl rfl) rfl (.eq (lk 17 rfl rfl) rfl (.eq (lk 18 rfl rfl) rfl (.eq (lk 19 rfl rfl) rfl (.eq (lk 20 rfl rfl) rfl (.eq (lk 21 rfl rfl) rfl (.eq (lk 22 rfl rfl) rfl (.eq (lk 23 rfl rfl) rfl (.eq (lk 24 rfl rfl) rfl .nil))))))))))) ?_
          refine AWp.seq ?_
          refine AWp.seq ?_
          refine W.regD [0, 1, 2, 3, 4, 5, 6, 7, 8, 9, 10, 11, 12, 13, 14, 15, 16, 17, 18, 19, 20, 21, 22, 23, 24, 25, 26, 27, 28, 29, 30, 31, 32, 33, 34, 35, 36, 37, 38, 39, 40] mixed ?_
          refine S.sil 69 rfl rfl (fun _ hF => .move (lk 1 rfl rfl)) ?_
          refine S.sil 70 rfl rfl (fun _ hF => .neq (lk 0 rfl rfl) cI) ?_
          refine S.sil 71 rfl rfl (fun _ hF => .move (lk 0 rfl rfl)) ?_
          first | refine S.gsil 72 2 71 false rfl rfl rfl (lk 0 rfl rfl) (fun hB _ hF => .nv (.fieldAddr lay23 rfl rfl (lk 5 rfl rfl)) (by (try simp only [List.set_cons_zero, List.set_cons_succ, List.cons_append, List.nil_append, List.append_nil, List.length_cons, List.length_nil, List.getD_cons_zero, List.getD_cons_succ, Nat.reduceAdd, Nat.reduceMul, Nat.zero_add, V.setAt_nil, V.setAt_st, V.setAt_arr, map_set']) <;> exact rfl)) ?_ | refine S.gsil 72 2 71 false rfl rfl rfl (lk 0 rfl rfl) (fun hB _ hF => .fieldAddrC lay23 rfl rfl (lk 5 rfl rfl) rfl (by first | rfl | simp)) ?_
          first | refine S.gqui 73 2 71 false rfl rfl rfl (lk 1 rfl rfl) (fun hB _ => .load sz3 ag3 (ifT hB (lk 0 rfl rfl)) (by first | rfl | simp) rfl (by first | rfl | simp [V.offOf]) (by first | rfl | (simp; done) | (simp; omega)) (by first | rfl | simp)) ?_ | refine S.gsil 73 2 71 false rfl rfl rfl (lk 1 rfl rfl) (fun hB _ hF => .loadC sz3 ag3 (ifT hB (lk 0 rfl rfl)) (by first | rfl | simp) (by first | rfl | simp)) ?_
          refine S.gsil 74 2 71 false rfl rfl rfl (lk 2 rfl rfl) (fun hB _ hF => .move (lk 10 rfl rfl)) ?_
          refine S.gsil 75 2 71 false rfl rfl rfl (lk 3 rfl rfl) (fun hB _ hF => .add (ifT hB (lk 0 rfl rfl)) cI) ?_
          refine S.gsil 76 2 71 false rfl rfl rfl (lk 4 rfl rfl) (fun hB _ hF => .neq (ifT hB (lk 2 rfl rfl)) (ifT hB (lk 0 rfl rfl))) ?_
          refine S.sil 77 rfl rfl (fun _ hF => .pickOr (lk 5 rfl rfl) cB (fun h => ifT h (lk 0 rfl rfl))) ?_
          refine S.sil 78 rfl rfl (fun _ hF => .move (lk 0 rfl rfl)) ?_
          first | refine S.gsil 79 9 78 false rfl rfl rfl (lk 0 rfl rfl) (fun hB _ hF => .nv (.fieldAddr lay23 rfl rfl (lk 12 rfl rfl)) (by (try simp only [List.set_cons_zero, List.set_cons_succ, List.cons_append, List.nil_append, List.append_nil, List.length_cons, List.length_nil, List.getD_cons_zero, List.getD_cons_succ, Nat.reduceAdd, Nat.reduceMul, Nat.zero_add, V.setAt_nil, V.setAt_st, V.setAt_arr, map_set']) <;> exact rfl)) ?_ | refine S.gsil 79 9 78 false rfl rfl rfl (lk 0 rfl rfl) (fun hB _ hF => .fieldAddrC lay23 rfl rfl (lk 12 rfl rfl) rfl (by first | rfl | simp)) ?_
          first | refine S.gqui 80 9 78 false rfl rfl rfl (lk 1 rfl rfl) (fun hB _ => .load sz3 ag3 (ifT hB (lk 0 rfl rfl)) (by first | rfl | simp) rfl (by first | rfl | simp [V.offOf]) (by first | rfl | (simp; done) | (simp; omega)) (by first | rfl | simp)) ?_ | refine S.gsil 80 9 78 false rfl rfl rfl (lk 1 rfl rfl) (fun hB _ hF => .loadC sz3 ag3 (ifT hB (lk 0 rfl rfl)) (by first | rfl | simp) (by first | rfl | simp)) ?_
          refine S.gsil 81 9 78 false rfl rfl rfl (lk 2 rfl rfl) (fun hB _ hF => .neq (ifT hB (lk 0 rfl rfl)) cI) ?_
          refine S.sil 82 rfl rfl (fun _ hF => .pickOr (lk 3 rfl rfl) cB (fun h => ifT h (lk 0 rfl rfl))) ?_
          refine S.sil 83 rfl rfl (fun _ hF => .move (lk 0 rfl rfl)) ?_
          first | refine S.gsil 84 14 83 false rfl rfl rfl (lk 0 rfl rfl) (fun hB _ hF => .nv (.fieldAddr lay23 rfl rfl (lk 17 rfl rfl)) (by (try simp only [List.set_cons_zero, List.set_cons_succ, List.cons_append, List.nil_append, List.append_nil, List.length_cons, List.length_nil, List.getD_cons_zero, List.getD_cons_succ, Nat.reduceAdd, Nat.reduceMul, Nat.zero_add, V.setAt_nil, V.setAt_st, V.setAt_arr, map_set']) <;> exact rfl)) ?_ | refine S.gsil 84 14 83 false rfl rfl rfl (lk 0 rfl rfl) (fun hB _ hF => .fieldAddrC lay23 rfl rfl (lk 17 rfl rfl) rfl (by first | rfl | simp)) ?_
          first | refine S.gqui 85 14 83 false rfl rfl rfl (lk 1 rfl rfl) (fun hB _ => .load sz3 ag3 (ifT hB (lk 0 rfl rfl)) (by first | rfl | simp) rfl (by first | rfl | simp [V.offOf]) (by first | rfl | (simp; done) | (simp; omega)) (by first | rfl | simp)) ?_ | refine S.gsil 85 14 83 false rfl rfl rfl (lk 1 rfl rfl) (fun hB _ hF => .loadC sz3 ag3 (ifT hB (lk 0 rfl rfl)) (by first | rfl | simp) (by first | rfl | simp)) ?_
          refine S.gsil 86 14 83 false rfl rfl rfl (lk 2 rfl rfl) (fun hB _ hF => .move (lk 23 rfl rfl)) ?_
          refine S.gsil 87 14 83 false rfl rfl rfl (lk 3 rfl rfl) (fun hB _ hF => .neq (ifT hB (lk 1 rfl rfl)) (ifT hB (lk 0 rfl rfl))) ?_
          refine S.sil 88 rfl rfl (fun _ hF => .pickOr (lk 4 rfl rfl) cB (fun h => ifT h (lk 0 rfl rfl))) ?_
          refine S.sil 89 rfl rfl (fun _ hF => .move (lk 0 rfl rfl)) ?_
          first | refine S.gsil 90 20 89 false rfl rfl rfl (lk 0 rfl rfl) (fun hB _ hF => .nv (.fieldAddr lay23 rfl rfl (lk 23 rfl rfl)) (by (try simp only [List.set_cons_zero, List.set_cons_succ, List.cons_append, List.nil_append, List.append_nil, List.length_cons, List.length_nil, List.getD_cons_zero, List.getD_cons_succ, Nat.reduceAdd, Nat.reduceMul, Nat.zero_add, V.setAt_nil, V.setAt_st, V.setAt_arr, map_set']) <;> exact rfl)) ?_ | refine S.gsil 90 20 89 false rfl rfl rfl (lk 0 rfl rfl) (fun hB _ hF => .fieldAddrC lay23 rfl rfl (lk 23 rfl rfl) rfl (by first | rfl | simp)) ?_
          first | refine S.gqui 91 20 89 false rfl rfl rfl (lk 1 rfl rfl) (fun hB _ => .load sz3 ag3 (ifT hB (lk 0 rfl rfl)) (by first | rfl | simp) rfl (by first | rfl | simp [V.offOf]) (by first | rfl | (simp; done) | (simp; omega)) (by first | rfl | simp)) ?_ | refine S.gsil 91 20 89 false rfl rfl rfl (lk 1 rfl rfl) (fun hB _ hF => .loadC sz3 ag3 (ifT hB (lk 0 rfl rfl)) (by first | rfl | simp) (by first | rfl | simp)) ?_
          refine S.gsil 92 20 89 false rfl rfl rfl (lk 2 rfl rfl) (fun hB _ hF => .move (lk 27 rfl rfl)) ?_
          refine S.gsil 93 20 89 false rfl rfl rfl (lk 3 rfl rfl) (fun hB _ hF => .neq (ifT hB (lk 1 rfl rfl)) (ifT hB (lk 0 rfl rfl))) ?_
          refine S.sil 94 rfl rfl (fun _ hF => .pickOr (lk 4 rfl rfl) cB (fun h => ifT h (lk 0 rfl rfl))) ?_
          refine S.sil 95 rfl rfl (fun _ hF => .move (lk 0 rfl rfl)) ?_
          refine S.gsil 96 26 95 false rfl rfl rfl (lk 0 rfl rfl) (fun hB _ hF => .move (lk 27 rfl rfl)) ?_
          refine S.gsil 97 26 95 false rfl rfl rfl (lk 1 rfl rfl) (fun hB _ hF => .eql (ifT hB (lk 0 rfl rfl)) cI) ?_
          refine S.gsil 98 26 95 false rfl rfl rfl (lk 2 rfl rfl) (fun hB _ hF => .move (lk 32 rfl rfl)) ?_
          refine S.gsil 99 26 95 false rfl rfl rfl (lk 3 rfl rfl) (fun hB _ hF => .move (lk 34 rfl rfl)) ?_
          refine S.gsil 100 26 95 false rfl rfl rfl (lk 4 rfl rfl) (fun hB _ hF => .eql (ifT hB (lk 1 rfl rfl)) (ifT hB (lk 0 rfl rfl))) ?_
          refine S.gsil 101 26 95 false rfl rfl rfl (lk 5 rfl rfl) (fun hB _ hF => .neqB und4 (ifT hB (lk 3 rfl rfl)) (ifT hB (lk 0 rfl rfl))) ?_
          refine S.sil 102 rfl rfl (fun _ hF => .pickOr (lk 6 rfl rfl) cB (fun h => ifT h (lk 0 rfl rfl))) ?_
          refine S.sil 103 rfl rfl (fun _ hF => .move (lk 0 rfl rfl)) ?_
          first | refine S.gqui 104 34 103 false rfl rfl rfl (lk 0 rfl rfl) (fun hB _ => .load sz23 ag23 (lk 42 rfl rfl) (by first | rfl | simp) rfl (by first | rfl | simp [V.offOf]) (by first | rfl | (simp; done) | (simp; omega)) (by first | rfl | simp)) ?_ | refine S.gsil 104 34 103 false rfl rfl rfl (lk 0 rfl rfl) (fun hB _ hF => .loadC sz23 ag23 (lk 42 rfl rfl) (by first | rfl | simp) (by first | rfl | simp)) ?_
          first | refine S.gqui 105 34 103 false rfl rfl rfl (lk 1 rfl rfl) (fun hB _ => .load sz23 ag23 (lk 38 rfl rfl) (by first | rfl | simp) rfl (by first | rfl | simp [V.offOf]) (by first | rfl | (simp; done) | (simp; omega)) (by first | rfl | simp)) ?_ | refine S.gsil 105 34 103 false rfl rfl rfl (lk 1 rfl rfl) (fun hB _ hF => .loadC sz23 ag23 (lk 38 rfl rfl) (by first | rfl | simp) (by first | rfl | simp)) ?_
          refine S.gsil 106 34 103 false rfl rfl rfl (lk 2 rfl rfl) (fun hB _ hF => .callQ ent11 cF (.c (ifT hB (lk 1 rfl rfl)) (by first | exact V.sub.refl _ | exact V.sub.forget _ _ _ | exact V.sub.nils_no _ | exact V.sub.nils _) (.c (ifT hB (lk 0 rfl rfl)) (by first | exact V.sub.refl _ | exact V.sub.forget _ _ _ | exact V.sub.nils_no _ | exact V.sub.nils _) .nil)) (Join_ok _ _)) ?_
          first | refine S.gqui 107 34 103 false rfl rfl rfl (lk 3 rfl rfl) (fun hB _ => .load sz23 ag23 (lk 40 rfl rfl) (by first | rfl | simp) rfl (by first | rfl | simp [V.offOf]) (by first | rfl | (simp; done) | (simp; omega)) (by first | rfl | simp)) ?_ | refine S.gsil 107 34 103 false rfl rfl rfl (lk 3 rfl rfl) (fun hB _ hF => .loadC sz23 ag23 (lk 40 rfl rfl) (by first | rfl | simp) (by first | rfl | simp)) ?_
          refine S.gsil 108 34 103 false rfl rfl rfl (lk 4 rfl rfl) (fun hB _ hF => .neqV eqt23 (ifT hB (lk 1 rfl rfl)) (ifT hB (lk 0 rfl rfl)) (by first | rfl | simp) (by first | rfl | simp) rfl rfl) ?_
          refine S.sil 109 rfl rfl (fun _ hF => .pickOr (lk 5 rfl rfl) cB (fun h => ifT h (lk 0 rfl rfl))) ?_
          refine S.nilD (by kernel_rfl) ?_
          refine thenQ_n ?_
          refine AWp.prune (.eq (lk 0 rfl rfl) rfl (.eq (lk 43 rfl rfl) rfl (.eq (lk 47 rfl rfl) rfl (.eq (lk 48 rfl rfl) rfl (.eq (lk 49 rfl rfl) rfl (.eq (lk 50 rfl rfl) rfl (.eq (lk 51 rfl rfl) rfl .nil))))))) ?_
          refine AWp.cond (lk 0 rfl rfl) (fun c3 => ?_) (fun c3 => ?_)
          · try simp only [decide_eq_true_eq, decide_eq_false_iff_not, Bool.not_eq_true', Bool.not_eq_false', Bool.and_eq_true, Bool.or_eq_true, Bool.and_eq_false_iff, Bool.or_eq_false_iff, Bool.not_eq_true, Bool.not_eq_false, ite_eq_left_iff] at c3
            refine AWp.seq ?_
            refine W.reg [0] rfl ?_
            refine S.sil 6 rfl rfl (fun _ hF => .assign cB) ?_
            refine S.nil ?_
            refine thenQ_n ?_
            refine AWp.ret ?_
            refine thenQ_r ?_
            refine blockQ_r ?_
            refine thenQ_r ?_
            refine thenQ_r ?_
            refine blockQ_r ?_
            refine thenQ_r ?_
            refine end1 rfl (lk 0 rfl rfl) rfl (by first | rfl | simp []) ?_
            exact absurd c3 (lawPasses2 hN (by omega) (by omega) hp)
          · try simp only [decide_eq_true_eq, decide_eq_false_iff_not, Bool.not_eq_true', Bool.not_eq_false', Bool.and_eq_true, Bool.or_eq_true, Bool.and_eq_false_iff, Bool.or_eq_false_iff, Bool.not_eq_true, Bool.not_eq_false, ite_eq_left_iff] at c3
            refine AWp.skip ?_
            refine thenQ_n ?_
            refine W.reg [0, 1] rfl ?_
            first | refine S.qui 110 rfl rfl (fun _ => .load sz23 ag23 (lk 1 rfl rfl) (by first | rfl | simp) rfl (by first | rfl | simp [V.offOf]) (by first | rfl | (simp; done) | (simp; omega)) (by first | rfl | simp)) ?_ | refine S.sil 110 rfl rfl (fun _ hF => .loadC sz23 ag23 (lk 1 rfl rfl) (by first | rfl | simp) (by first | rfl | simp)) ?_
            refine S.effN rfl rfl (.nf (.store sz23 (lk 4 rfl rfl) (lk 0 rfl rfl) rfl (by first | rfl | simp) rfl (by first | rfl | simp [V.offOf]) (by first | rfl | simp) (by first | rfl | simp)) (by (try simp only [List.set_cons_zero, List.set_cons_succ, List.cons_append, List.nil_append, List.append_nil, List.length_cons, List.length_nil, List.getD_cons_zero, List.getD_cons_succ, Nat.reduceAdd, Nat.reduceMul, Nat.zero_add, V.setAt_nil, V.setAt_st, V.setAt_arr, map_set']) <;> exact rfl) (by (try simp only [List.set_cons_zero, List.set_cons_succ, List.cons_append, List.nil_append, List.append_nil, List.length_cons, List.length_nil, List.getD_cons_zero, List.getD_cons_succ, Nat.reduceAdd, Nat.reduceMul, Nat.zero_add, V.setAt_nil, V.setAt_st, V.setAt_arr, map_set']) <;> exact rfl)) (by first | exact trivial | exact rfl | exact ⟨rfl, rfl⟩) ?_
            refine S.nil ?_
            refine blockQ_n ?_
            refine thenQ_n ?_
            refine W.reg [0, 1] rfl ?_
            refine S.sil 111 rfl rfl (fun _ hF => .add (lk 7 rfl rfl) cI) ?_
            refine S.sil 32 rfl rfl (fun _ hF => .move (lk 0 rfl rfl)) ?_
            refine S.nil ?_
            refine thenQ_n ?_
            refine ⟨⟨⟨i + 1, xs.getD i 0⟩, by simp; omega, hk⟩, by simp; omega, ?_⟩
            exact Wk.to 1 (by decide) (congrArg (fun l => [AObj.cells (encLock l)]) (congrArg Prod.fst hp)) (.eq (lk 5 rfl rfl) rfl (.eq (lk 6 rfl rfl) rfl (.eq (lk 7 rfl rfl) rfl (.eq (lk 8 rfl rfl) rfl (.eq (lk 0 rfl rfl) (by rw [wrap_id (by omega) (by omega)]; rfl) .nil))))) (by first | rfl | simp [envLt, V.lt]) (by first | rfl | simp [objsLt, AObj.lt, V.lt, -List.map_set])
      · try simp only [decide_eq_true_eq, decide_eq_false_iff_not, Bool.not_eq_true', Bool.not_eq_false', Bool.and_eq_true, Bool.or_eq_true, Bool.and_eq_false_iff, Bool.or_eq_false_iff, Bool.not_eq_true, Bool.not_eq_false, ite_eq_left_iff] at c1
        refine AWp.exit ?_
        refine thenQ_x ?_
        refine thenQ_x ?_
        refine blockQ_x ?_
        refine thenQ_n ?_
        refine AWp.seq ?_
        refine W.reg [0, 1] rfl ?_
        refine S.sil 112 rfl rfl (fun _ hF => .callQ ent10 cF .nil (awake_ok)) ?_
        refine S.sil 6 rfl rfl (fun _ hF => .assign (lk 0 rfl rfl)) ?_
        refine S.nil ?_
        refine thenQ_n ?_
        refine AWp.ret ?_
        refine end1 rfl (lk 0 rfl rfl) rfl (by first | rfl | simp []) ?_
        rfl

end Go.Av
