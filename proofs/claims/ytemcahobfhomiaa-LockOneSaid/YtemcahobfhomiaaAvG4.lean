/- Functions that the statements of this seat reach, each with what it answers. -/
import Derived.Test.YtemcahobfhomiaaProg
import Derived.KernelRfl
import Derived.Test.YtemcahobfhomiaaAvG3
import Derived.Test.YtemcahobfhomiaaAvLLock3
namespace Go.Av
open Go.Proofs
set_option linter.unusedVariables false
set_option linter.unusedSimpArgs false
set_option maxHeartbeats 4000000
theorem sz35 : szOf Pg 35 = some 1 := by kernel_rfl
theorem ag35 : aggOf Pg 35 = some false := by kernel_rfl
theorem und35 : Pg.underlying 35 = some (.map 34 23) := by kernel_rfl
theorem zv35 : ZeroV Pg 35 (.nilmap) := ⟨((Pg.info? 35).bind (·.zero)).getD .nilFunc, (by kernel_rfl), (by kernel_rfl), (by kernel_rfl)⟩
theorem key34 : Maps.Keyed Pg 34 := .of_law (deep_law_gate (by kernel_rfl) (of_decide_eq_true (by kernel_rfl)) (of_decide_eq_true (by kernel_rfl)) (by kernel_rfl) (by kernel_rfl))

theorem key34_ok {a b : Int} (ha : isN a = true) (hb : isN b = true) : keyOk Pg 34 (keyV a b) := by
  obtain ⟨l, hl⟩ := keyOf_ints (P := Pg) (k := 34) (e := 3) (n := 2) (q := .i64) (by kernel_rfl) (by kernel_rfl) (by kernel_rfl) (by kernel_rfl) (by kernel_rfl) (of_decide_eq_true (by kernel_rfl)) (xs := [a, b]) rfl (by
    have h1 := isN_bounds ha
    have h2 := isN_bounds hb
    intro x hx
    simp at hx
    rcases hx with rfl | rfl <;> (simp [Lit.wf, IntKind.min, IntKind.max, IntKind.signed, IntKind.bits]; omega))
  exact ⟨_, l, flat_keyV a b, hl⟩
theorem keys34 {seen : List Lock} (h : ∀ y ∈ seen, isN y.Seq = true ∧ isN y.Ver = true) : ∀ p ∈ encSeen seen, keyOk Pg 34 p.1 := by
  intro p hp
  obtain ⟨y, hy, rfl⟩ := List.mem_map.1 hp
  exact key34_ok (h y hy).1 (h y hy).2
theorem LockOne_ok (h v : Int) (l : List Do) : PureC Pg 5 [.int .i64 h, .int .i64 v, .sl 4 .no (l.map encDo)] (.bool true) := by
  refine PureC.of (CallSpec.of_body 172 0 Try.func5 rfl rfl rfl (by simp) ?_) (by simp []) (by simp [])
  refine AWp.seq ?_
  refine W.reg [0] rfl ?_
  refine S.sil 6 rfl rfl (fun _ hF => .assign cB) ?_
  refine S.nil ?_
  refine thenQ_n ?_
  refine AWp.seq ?_
  refine W.reg [0, 1, 2, 3, 4, 5, 6, 7, 8] rfl ?_
  refine S.sil 23 rfl rfl (fun _ hF => .move (lk 1 rfl rfl)) ?_
  refine S.sil 24 rfl rfl (fun _ hF => .move (lk 3 rfl rfl)) ?_
  refine S.sil 25 rfl rfl (fun _ hF => .callQ ent14 cF (.c (lk 1 rfl rfl) (by first | exact V.sub.refl _ | exact V.sub.forget _ _ _ | exact V.sub.nils_no _ | exact V.sub.nils _) (.c (lk 0 rfl rfl) (by first | exact V.sub.refl _ | exact V.sub.forget _ _ _ | exact V.sub.nils_no _ | exact V.sub.nils _) .nil)) (New_ok _ _)) ?_
  refine S.sil 22 rfl rfl (fun _ hF => .move (lk 0 rfl rfl)) ?_
  refine S.sil 26 rfl rfl (fun _ hF => .extract (lk 0 rfl rfl) rfl) ?_
  refine S.sil 27 rfl rfl (fun _ hF => .extract (lk 1 rfl rfl) rfl) ?_
  refine S.new 7 rfl rfl (.nf (.alloc zv23) (by (try simp only [List.set_cons_zero, List.set_cons_succ, List.cons_append, List.nil_append, List.append_nil, List.length_cons, List.length_nil, List.getD_cons_zero, List.getD_cons_succ, Nat.reduceAdd, Nat.reduceMul, Nat.zero_add, V.setAt_nil, V.setAt_st, V.setAt_arr, map_set']) <;> exact rfl) (by (try simp only [List.set_cons_zero, List.set_cons_succ, List.cons_append, List.nil_append, List.append_nil, List.length_cons, List.length_nil, List.getD_cons_zero, List.getD_cons_succ, Nat.reduceAdd, Nat.reduceMul, Nat.zero_add, V.setAt_nil, V.setAt_st, V.setAt_arr, map_set']) <;> exact rfl)) (by first | exact trivial | exact rfl | exact ⟨rfl, rfl⟩) ?_
  refine S.effN rfl rfl (.nf (.store sz23 (lk 0 rfl rfl) (lk 2 rfl rfl) rfl (by first | rfl | simp) rfl (by first | rfl | simp [V.offOf]) (by first | rfl | simp) (by first | rfl | simp)) (by (try simp only [List.set_cons_zero, List.set_cons_succ, List.cons_append, List.nil_append, List.append_nil, List.length_cons, List.length_nil, List.getD_cons_zero, List.getD_cons_succ, Nat.reduceAdd, Nat.reduceMul, Nat.zero_add, V.setAt_nil, V.setAt_st, V.setAt_arr, map_set']) <;> exact rfl) (by (try simp only [List.set_cons_zero, List.set_cons_succ, List.cons_append, List.nil_append, List.append_nil, List.length_cons, List.length_nil, List.getD_cons_zero, List.getD_cons_succ, Nat.reduceAdd, Nat.reduceMul, Nat.zero_add, V.setAt_nil, V.setAt_st, V.setAt_arr, map_set']) <;> exact rfl)) (by first | exact trivial | exact rfl | exact ⟨rfl, rfl⟩) ?_
  refine S.sil 8 rfl rfl (fun _ hF => .assign (lk 1 rfl rfl)) ?_
  refine S.nil ?_
  refine thenQ_n ?_
  refine AWp.seq ?_
  refine AWp.seq ?_
  refine W.reg [0, 1, 2, 3, 4, 5, 6] rfl ?_
  refine S.sil 28 rfl rfl (fun _ hF => .move (lk 0 rfl rfl)) ?_
  refine S.sil 29 rfl rfl (fun _ hF => .neq (lk 0 rfl rfl) cI) ?_
  refine S.sil 30 rfl rfl (fun _ hF => .move (lk 0 rfl rfl)) ?_
  refine S.gsil 31 2 30 false rfl rfl rfl (lk 0 rfl rfl) (fun hB _ hF => .move (lk 14 rfl rfl)) ?_
  first | refine S.gsil 32 2 30 false rfl rfl rfl (lk 1 rfl rfl) (fun hB _ hF => .len sli29 (ifT hB (lk 0 rfl rfl)) (by first | exact V.sub.refl _ | exact V.sub.forget _ _ _ | exact V.sub.nils_no _ | exact V.sub.nils _)) ?_ | refine S.gsil 32 2 30 false rfl rfl rfl (lk 1 rfl rfl) (fun hB _ hF => .lenO sli29 (ifT hB (lk 0 rfl rfl))) ?_
  refine S.gsil 33 2 30 false rfl rfl rfl (lk 2 rfl rfl) (fun hB _ hF => .gtr (ifT hB (lk 0 rfl rfl)) cI) ?_
  refine S.sil 34 rfl rfl (fun _ hF => .pickOr (lk 3 rfl rfl) cB (fun h => ifT h (lk 0 rfl rfl))) ?_
  refine S.nil ?_
  refine thenQ_n ?_
  refine AWp.prune (.eq (lk 0 rfl rfl) rfl (.eq (lk 8 rfl rfl) rfl (.eq (lk 15 rfl rfl) rfl (.eq (lk 18 rfl rfl) rfl .nil)))) ?_
  refine AWp.cond (lk 0 rfl rfl) (fun c0 => ?_) (fun c0 => ?_)
  · try simp only [decide_eq_true_eq, decide_eq_false_iff_not, Bool.not_eq_true', Bool.not_eq_false', Bool.and_eq_true, Bool.or_eq_true, Bool.and_eq_false_iff, Bool.or_eq_false_iff, Bool.not_eq_true, Bool.not_eq_false, ite_eq_left_iff] at c0
    refine AWp.seq ?_
    refine W.reg [0, 1] rfl ?_
    refine S.sil 35 rfl rfl (fun _ hF => .callQ ent10 cF .nil (awake_ok)) ?_
    refine S.sil 6 rfl rfl (fun _ hF => .assign (lk 0 rfl rfl)) ?_
    refine S.nil ?_
    refine thenQ_n ?_
    refine AWp.ret ?_
    refine thenQ_r ?_
    refine end1 rfl (lk 0 rfl rfl) rfl (by first | rfl | simp []) ?_
    rfl
  · try simp only [decide_eq_true_eq, decide_eq_false_iff_not, Bool.not_eq_true', Bool.not_eq_false', Bool.and_eq_true, Bool.or_eq_true, Bool.and_eq_false_iff, Bool.or_eq_false_iff, Bool.not_eq_true, Bool.not_eq_false, ite_eq_left_iff] at c0
    obtain ⟨hR, hN, hnew⟩ := new_ok c0.1
    have hl : l.length ≤ 80 := by have := c0.2; simp at this; omega
    have hR : isR (newLock h v).1.Holder = true := by rw [hnew]; exact hR
    have hNN : isN (newLock h v).1.Seq = true ∧ isN (newLock h v).1.Ver = true := by rw [hnew]; exact ⟨by show isN 0 = true; decide, by show isN 0 = true; decide⟩
    refine AWp.skip ?_
    refine thenQ_n ?_
    refine AWp.seq ?_
    refine W.reg [0] rfl ?_
    refine S.new 9 rfl rfl (.nf (.alloc zv33) (by (try simp only [List.set_cons_zero, List.set_cons_succ, List.cons_append, List.nil_append, List.append_nil, List.length_cons, List.length_nil, List.getD_cons_zero, List.getD_cons_succ, Nat.reduceAdd, Nat.reduceMul, Nat.zero_add, V.setAt_nil, V.setAt_st, V.setAt_arr, map_set']) <;> exact rfl) (by (try simp only [List.set_cons_zero, List.set_cons_succ, List.cons_append, List.nil_append, List.append_nil, List.length_cons, List.length_nil, List.getD_cons_zero, List.getD_cons_succ, Nat.reduceAdd, Nat.reduceMul, Nat.zero_add, V.setAt_nil, V.setAt_st, V.setAt_arr, map_set']) <;> exact rfl)) (by first | exact trivial | exact rfl | exact ⟨rfl, rfl⟩) ?_
    refine S.nil ?_
    refine thenQ_n ?_
    refine AWp.seq ?_
    refine AWp.seq ?_
    refine W.reg [0] rfl ?_
    refine S.sil 36 rfl rfl (fun _ hF => .move cI) ?_
    refine S.nil ?_
    refine thenQ_n ?_
    refine AWp.block ?_
    refine AWp.loopS (ι := {i : Nat // i ≤ 16}) (fun ⟨i, _⟩ => ⟨[(2, .sl 4 .no (l.map encDo)), (7, .ptr 0 [] 0), (9, .ptr 1 [] 0), (36, .int .i64 (i : Int))], [.cells (encLock (newLock h v).1), .cells (.arr 4 (List.map encLock (fillL 16 i (newLock h v).1 lock0)))]⟩) (fun ⟨i, _⟩ => 16 - i) ⟨0, by omega⟩ ?_ ?_
    · exact Wk.to 2 (by decide) rfl (.eq (lk 5 rfl rfl) rfl (.eq (lk 3 rfl rfl) rfl (.eq (lk 1 rfl rfl) rfl (.eq (lk 0 rfl rfl) rfl .nil)))) (by first | rfl | simp [envLt, V.lt]) (by first | rfl | simp [objsLt, AObj.lt, V.lt, -List.map_set])
    · rintro ⟨i, hi1⟩
      refine AWp.seq ?_
      refine W.reg [0] rfl ?_
      refine S.sil 37 rfl rfl (fun _ hF => .lss (lk 3 rfl rfl) cI) ?_
      refine S.nil ?_
      refine thenQ_n ?_
      refine AWp.seq ?_
      refine AWp.cond (lk 0 rfl rfl) (fun c1 => ?_) (fun c1 => ?_)
      · try simp only [decide_eq_true_eq, decide_eq_false_iff_not, Bool.not_eq_true', Bool.not_eq_false', Bool.and_eq_true, Bool.or_eq_true, Bool.and_eq_false_iff, Bool.or_eq_false_iff, Bool.not_eq_true, Bool.not_eq_false, ite_eq_left_iff] at c1
        refine AWp.skip ?_
        refine thenQ_n ?_
        refine AWp.seq ?_
        refine AWp.block ?_
        refine AWp.seq ?_
        refine W.reg [0, 1] rfl ?_
        refine S.sil 38 rfl rfl (fun _ hF => .move (lk 4 rfl rfl)) ?_
        refine S.sil 10 rfl rfl (fun _ hF => .assign (lk 0 rfl rfl)) ?_
        refine S.nil ?_
        refine thenQ_n ?_
        refine W.reg [0, 1, 2, 3] rfl ?_
        refine S.sil 39 rfl rfl (fun _ hF => .move (lk 0 rfl rfl)) ?_
        first | refine S.qui 40 rfl rfl (fun _ => .load sz23 ag23 (lk 5 rfl rfl) (by first | rfl | simp) rfl (by first | rfl | simp [V.offOf]) (by first | rfl | (simp; done) | (simp; omega)) (by first | rfl | simp)) ?_ | refine S.sil 40 rfl rfl (fun _ hF => .loadC sz23 ag23 (lk 5 rfl rfl) (by first | rfl | simp) (by first | rfl | simp)) ?_
        first | refine S.sil 41 rfl rfl (fun _ hF => .nv (.indexAddr arr33 (lk 7 rfl rfl) (lk 1 rfl rfl) (by omega) (by omega)) (by (try simp only [List.set_cons_zero, List.set_cons_succ, List.cons_append, List.nil_append, List.append_nil, List.length_cons, List.length_nil, List.getD_cons_zero, List.getD_cons_succ, Nat.reduceAdd, Nat.reduceMul, Nat.zero_add, V.setAt_nil, V.setAt_st, V.setAt_arr, map_set']) <;> exact rfl)) ?_ | refine S.sil 41 rfl rfl (fun _ hF => .indexAddrC arr33 (lk 7 rfl rfl) (lk 1 rfl rfl) (by omega) (by omega) rfl) ?_
        refine S.effN rfl rfl (.nf (.store sz23 (lk 0 rfl rfl) (lk 1 rfl rfl) rfl (by first | rfl | simp) (at_map encLock lock0 (by rw [fillL_len (by omega)]; omega)) (by first | rfl | simp [V.offOf]) (by first | rfl | simp) (by first | rfl | simp)) (by (try simp only [List.set_cons_zero, List.set_cons_succ, List.cons_append, List.nil_append, List.append_nil, List.length_cons, List.length_nil, List.getD_cons_zero, List.getD_cons_succ, Nat.reduceAdd, Nat.reduceMul, Nat.zero_add, V.setAt_nil, V.setAt_st, V.setAt_arr, map_set']) <;> exact rfl) (by (try simp only [List.set_cons_zero, List.set_cons_succ, List.cons_append, List.nil_append, List.append_nil, List.length_cons, List.length_nil, List.getD_cons_zero, List.getD_cons_succ, Nat.reduceAdd, Nat.reduceMul, Nat.zero_add, V.setAt_nil, V.setAt_st, V.setAt_arr, map_set']) <;> exact rfl)) (by first | exact trivial | exact rfl | exact ⟨rfl, rfl⟩) ?_
        refine S.nil ?_
        refine blockQ_n ?_
        refine thenQ_n ?_
        refine W.reg [0, 1] rfl ?_
        refine S.sil 42 rfl rfl (fun _ hF => .add (lk 9 rfl rfl) cI) ?_
        refine S.sil 36 rfl rfl (fun _ hF => .move (lk 0 rfl rfl)) ?_
        refine S.nil ?_
        refine thenQ_n ?_
        refine ⟨⟨i + 1, by omega⟩, by simp; omega, ?_⟩
        exact Wk.to 2 (by decide) (congrArg (fun q => [AObj.cells (encLock (newLock h v).1), AObj.cells (.arr 4 (List.map encLock q))]) (fillL_set (n := 16) (i := i) (by omega))) (.eq (lk 8 rfl rfl) rfl (.eq (lk 9 rfl rfl) rfl (.eq (lk 10 rfl rfl) rfl (.eq (lk 0 rfl rfl) (by rw [wrap_id (by omega) (by omega)]; rfl) .nil)))) (by first | rfl | simp [envLt, V.lt]) (by first | rfl | simp [objsLt, AObj.lt, V.lt, -List.map_set])
      · try simp only [decide_eq_true_eq, decide_eq_false_iff_not, Bool.not_eq_true', Bool.not_eq_false', Bool.and_eq_true, Bool.or_eq_true, Bool.and_eq_false_iff, Bool.or_eq_false_iff, Bool.not_eq_true, Bool.not_eq_false, ite_eq_left_iff] at c1
        have hfull : fillL 16 i (newLock h v).1 lock0 = List.replicate 16 (newLock h v).1 := (show i = 16 from by omega) ▸ fillL_full
        have hseen : [(keyV 0 0, encLock (newLock h v).1)] = encSeen [(newLock h v).1] := by simp [encSeen, hnew]
        refine AWp.exit ?_
        refine thenQ_x ?_
        refine thenQ_x ?_
        refine blockQ_x ?_
        refine thenQ_n ?_
        refine AWp.seq ?_
        refine W.reg [0, 1, 2, 3, 4, 5] rfl ?_
        refine S.new 43 rfl rfl (.nf (.makeMap) (by (try simp only [List.set_cons_zero, List.set_cons_succ, List.cons_append, List.nil_append, List.append_nil, List.length_cons, List.length_nil, List.getD_cons_zero, List.getD_cons_succ, Nat.reduceAdd, Nat.reduceMul, Nat.zero_add, V.setAt_nil, V.setAt_st, V.setAt_arr, map_set']) <;> exact rfl) (by (try simp only [List.set_cons_zero, List.set_cons_succ, List.cons_append, List.nil_append, List.append_nil, List.length_cons, List.length_nil, List.getD_cons_zero, List.getD_cons_succ, Nat.reduceAdd, Nat.reduceMul, Nat.zero_add, V.setAt_nil, V.setAt_st, V.setAt_arr, map_set']) <;> exact rfl)) (by first | exact trivial | exact rfl | exact ⟨rfl, rfl⟩) ?_
        refine S.sil 44 rfl rfl (fun _ hF => .buildArrL arr34 zv34 (.cons cI rfl (by first | rfl | simp) (by first | rfl | simp) (.cons cI rfl (by first | rfl | simp) (by first | rfl | simp) .nil)) rfl rfl) ?_
        first | refine S.qui 45 rfl rfl (fun _ => .load sz23 ag23 (lk 4 rfl rfl) (by first | rfl | simp) rfl (by first | rfl | simp [V.offOf]) (by first | rfl | (simp; done) | (simp; omega)) (by first | rfl | simp)) ?_ | refine S.sil 45 rfl rfl (fun _ hF => .loadC sz23 ag23 (lk 4 rfl rfl) (by first | rfl | simp) (by first | rfl | simp)) ?_
        refine S.effN rfl rfl (.nf (.insert und35 key34 (lk 2 rfl rfl) (lk 1 rfl rfl) (lk 0 rfl rfl) (by first | rfl | simp) (key34_ok (a := 0) (b := 0) (by decide) (by decide)) (by simp) (by simp) (PutM.new (by simp))) (by (try simp only [List.set_cons_zero, List.set_cons_succ, List.cons_append, List.nil_append, List.append_nil, List.length_cons, List.length_nil, List.getD_cons_zero, List.getD_cons_succ, Nat.reduceAdd, Nat.reduceMul, Nat.zero_add, V.setAt_nil, V.setAt_st, V.setAt_arr, map_set']) <;> exact rfl) (by (try simp only [List.set_cons_zero, List.set_cons_succ, List.cons_append, List.nil_append, List.append_nil, List.length_cons, List.length_nil, List.getD_cons_zero, List.getD_cons_succ, Nat.reduceAdd, Nat.reduceMul, Nat.zero_add, V.setAt_nil, V.setAt_st, V.setAt_arr, map_set']) <;> exact rfl)) (by first | exact trivial | exact rfl | exact ⟨rfl, rfl⟩) ?_
        refine S.sil 46 rfl rfl (fun _ hF => .move (lk 2 rfl rfl)) ?_
        refine S.sil 11 rfl rfl (fun _ hF => .assign (lk 0 rfl rfl)) ?_
        refine S.nil ?_
        refine thenQ_n ?_
        refine AWp.seq ?_
        refine W.reg [0, 1, 2] rfl ?_
        first | refine S.qui 47 rfl rfl (fun _ => .load sz23 ag23 (lk 7 rfl rfl) (by first | rfl | simp) rfl (by first | rfl | simp [V.offOf]) (by first | rfl | (simp; done) | (simp; omega)) (by first | rfl | simp)) ?_ | refine S.sil 47 rfl rfl (fun _ hF => .loadC sz23 ag23 (lk 7 rfl rfl) (by first | rfl | simp) (by first | rfl | simp)) ?_
        refine S.new 12 rfl rfl (.nf (.alloc zv23) (by (try simp only [List.set_cons_zero, List.set_cons_succ, List.cons_append, List.nil_append, List.append_nil, List.length_cons, List.length_nil, List.getD_cons_zero, List.getD_cons_succ, Nat.reduceAdd, Nat.reduceMul, Nat.zero_add, V.setAt_nil, V.setAt_st, V.setAt_arr, map_set']) <;> exact rfl) (by (try simp only [List.set_cons_zero, List.set_cons_succ, List.cons_append, List.nil_append, List.append_nil, List.length_cons, List.length_nil, List.getD_cons_zero, List.getD_cons_succ, Nat.reduceAdd, Nat.reduceMul, Nat.zero_add, V.setAt_nil, V.setAt_st, V.setAt_arr, map_set']) <;> exact rfl)) (by first | exact trivial | exact rfl | exact ⟨rfl, rfl⟩) ?_
        refine S.effN rfl rfl (.nf (.store sz23 (lk 0 rfl rfl) (lk 1 rfl rfl) rfl (by first | rfl | simp) rfl (by first | rfl | simp [V.offOf]) (by first | rfl | simp) (by first | rfl | simp)) (by (try simp only [List.set_cons_zero, List.set_cons_succ, List.cons_append, List.nil_append, List.append_nil, List.length_cons, List.length_nil, List.getD_cons_zero, List.getD_cons_succ, Nat.reduceAdd, Nat.reduceMul, Nat.zero_add, V.setAt_nil, V.setAt_st, V.setAt_arr, map_set']) <;> exact rfl) (by (try simp only [List.set_cons_zero, List.set_cons_succ, List.cons_append, List.nil_append, List.append_nil, List.length_cons, List.length_nil, List.getD_cons_zero, List.getD_cons_succ, Nat.reduceAdd, Nat.reduceMul, Nat.zero_add, V.setAt_nil, V.setAt_st, V.setAt_arr, map_set']) <;> exact rfl)) (by first | exact trivial | exact rfl | exact ⟨rfl, rfl⟩) ?_
        refine S.nil ?_
        refine thenQ_n ?_
        refine AWp.seq ?_
        refine AWp.seq ?_
        refine W.reg [0, 1, 2] rfl ?_
        refine S.sil 48 rfl rfl (fun _ hF => .move (lk 8 rfl rfl)) ?_
        first | refine S.sil 49 rfl rfl (fun _ hF => .len sli29 (lk 0 rfl rfl) (by first | exact V.sub.refl _ | exact V.sub.forget _ _ _ | exact V.sub.nils_no _ | exact V.sub.nils _)) ?_ | refine S.sil 49 rfl rfl (fun _ hF => .lenO sli29 (lk 0 rfl rfl)) ?_
        refine S.sil 50 rfl rfl (fun _ hF => .move cI) ?_
        refine S.nil ?_
        refine thenQ_n ?_
        refine AWp.block ?_
        refine AWp.loopS (ι := {p : Nat × List Lock × List Lock × Lock // p.1 ≤ l.length ∧ InvO p.2.1 p.2.2.1 p.2.2.2 ∧ (newLock h v).1 ∈ p.2.2.1}) (fun ⟨⟨i, s, seen, last⟩, _⟩ => ⟨[(7, .ptr 0 [] 0), (9, .ptr 1 [] 0), (11, .map 2), (12, .ptr 3 [] 0), (48, .sl 4 .no (l.map encDo)), (49, .int .i64 ((l.length : Nat) : Int)), (50, .int .i64 (i : Int))], [.cells (encLock (newLock h v).1), .cells (.arr 4 (List.map encLock s)), .map (encSeen seen), .cells (encLock last)]⟩) (fun ⟨⟨i, s, seen, last⟩, _⟩ => l.length - i) ⟨⟨0, List.replicate 16 (newLock h v).1, [(newLock h v).1], (newLock h v).1⟩, by simp, InvO.start hR hNN, by simp⟩ ?_ ?_
        · exact Wk.to 4 (by decide) (by rw [← hfull, ← hseen]; rfl) (.eq (lk 12 rfl rfl) rfl (.eq (lk 13 rfl rfl) rfl (.eq (lk 5 rfl rfl) rfl (.eq (lk 3 rfl rfl) rfl (.eq (lk 2 rfl rfl) rfl (.eq (lk 1 rfl rfl) (by simp) (.eq (lk 0 rfl rfl) rfl .nil))))))) (by first | rfl | simp [envLt, V.lt]) (by first | rfl | simp [objsLt, AObj.lt, V.lt, -List.map_set])
        · rintro ⟨⟨i, s, seen, last⟩, hi1, inv, hfirst⟩
          have hi1 : i ≤ l.length := hi1
          have inv : InvO s seen last := inv
          have hfirst : (newLock h v).1 ∈ seen := hfirst
          have hes := keys34 inv.num
          have hnd := seen_nodup inv.nodup
          have hlen := inv.inv.len
          refine AWp.seq ?_
          refine W.reg [0] rfl ?_
          refine S.sil 51 rfl rfl (fun _ hF => .lss (lk 6 rfl rfl) (lk 5 rfl rfl)) ?_
          refine S.nil ?_
          refine thenQ_n ?_
          refine AWp.seq ?_
          refine AWp.cond (lk 0 rfl rfl) (fun c2 => ?_) (fun c2 => ?_)
          · try simp only [decide_eq_true_eq, decide_eq_false_iff_not, Bool.not_eq_true', Bool.not_eq_false', Bool.and_eq_true, Bool.or_eq_true, Bool.and_eq_false_iff, Bool.or_eq_false_iff, Bool.not_eq_true, Bool.not_eq_false, ite_eq_left_iff] at c2
            have hu : (l.map encDo)[((i : Nat) : Int).toNat]? = some (encDo (l.getD i do0)) := map_get encDo do0 (by omega)
            generalize l.getD i do0 = d at hu ⊢
            refine AWp.skip ?_
            refine thenQ_n ?_
            refine AWp.seq ?_
            refine AWp.block ?_
            refine AWp.seq ?_
            refine W.reg [0, 1, 2, 3] rfl ?_
            first | refine S.sil 52 rfl rfl (fun _ hF => .indexAddrS sli29 (lk 5 rfl rfl) (lk 7 rfl rfl) (by omega) (by simp; omega) hu) ?_ | refine S.sil 52 rfl rfl (fun _ hF => .nv (.indexAddrO sli29 (lk 5 rfl rfl) (lk 7 rfl rfl) (by omega) (by simp; omega)) (by (try simp only [List.set_cons_zero, List.set_cons_succ, List.cons_append, List.nil_append, List.append_nil, List.length_cons, List.length_nil, List.getD_cons_zero, List.getD_cons_succ, Nat.reduceAdd, Nat.reduceMul, Nat.zero_add, V.setAt_nil, V.setAt_st, V.setAt_arr, map_set']) <;> exact rfl)) ?_
            first | refine S.qui 53 rfl rfl (fun _ => .load sz37 ag37 (lk 0 rfl rfl) (by first | rfl | simp) rfl (by first | rfl | simp [V.offOf]) (by first | rfl | (simp; done) | (simp; omega)) (by first | rfl | simp)) ?_ | refine S.sil 53 rfl rfl (fun _ hF => .loadC sz37 ag37 (lk 0 rfl rfl) (by first | rfl | simp) (by first | rfl | simp)) ?_
            refine S.new 14 rfl rfl (.nf (.alloc zv37) (by (try simp only [List.set_cons_zero, List.set_cons_succ, List.cons_append, List.nil_append, List.append_nil, List.length_cons, List.length_nil, List.getD_cons_zero, List.getD_cons_succ, Nat.reduceAdd, Nat.reduceMul, Nat.zero_add, V.setAt_nil, V.setAt_st, V.setAt_arr, map_set']) <;> exact rfl) (by (try simp only [List.set_cons_zero, List.set_cons_succ, List.cons_append, List.nil_append, List.append_nil, List.length_cons, List.length_nil, List.getD_cons_zero, List.getD_cons_succ, Nat.reduceAdd, Nat.reduceMul, Nat.zero_add, V.setAt_nil, V.setAt_st, V.setAt_arr, map_set']) <;> exact rfl)) (by first | exact trivial | exact rfl | exact ⟨rfl, rfl⟩) ?_
            refine S.effN rfl rfl (.nf (.store sz37 (lk 0 rfl rfl) (lk 1 rfl rfl) rfl (by first | rfl | simp) rfl (by first | rfl | simp [V.offOf]) (by first | rfl | simp) (by first | rfl | simp)) (by (try simp only [List.set_cons_zero, List.set_cons_succ, List.cons_append, List.nil_append, List.append_nil, List.length_cons, List.length_nil, List.getD_cons_zero, List.getD_cons_succ, Nat.reduceAdd, Nat.reduceMul, Nat.zero_add, V.setAt_nil, V.setAt_st, V.setAt_arr, map_set']) <;> exact rfl) (by (try simp only [List.set_cons_zero, List.set_cons_succ, List.cons_append, List.nil_append, List.append_nil, List.length_cons, List.length_nil, List.getD_cons_zero, List.getD_cons_succ, Nat.reduceAdd, Nat.reduceMul, Nat.zero_add, V.setAt_nil, V.setAt_st, V.setAt_arr, map_set']) <;> exact rfl)) (by first | exact trivial | exact rfl | exact ⟨rfl, rfl⟩) ?_
            refine S.nil ?_
            refine thenQ_n ?_
            refine AWp.seq ?_
            refine AWp.seq ?_
            refine W.reg [0, 1, 2, 3, 4, 5, 6, 7] rfl ?_
            first | refine S.sil 54 rfl rfl (fun _ hF => .nv (.fieldAddr lay37 rfl rfl (lk 0 rfl rfl)) (by (try simp only [List.set_cons_zero, List.set_cons_succ, List.cons_append, List.nil_append, List.append_nil, List.length_cons, List.length_nil, List.getD_cons_zero, List.getD_cons_succ, Nat.reduceAdd, Nat.reduceMul, Nat.zero_add, V.setAt_nil, V.setAt_st, V.setAt_arr, map_set']) <;> exact rfl)) ?_ | refine S.sil 54 rfl rfl (fun _ hF => .fieldAddrC lay37 rfl rfl (lk 0 rfl rfl) rfl (by first | rfl | simp)) ?_
            first | refine S.qui 55 rfl rfl (fun _ => .load sz3 ag3 (lk 0 rfl rfl) (by first | rfl | simp) rfl (by first | rfl | simp [V.offOf]) (by first | rfl | (simp; done) | (simp; omega)) (by first | rfl | simp)) ?_ | refine S.sil 55 rfl rfl (fun _ hF => .loadC sz3 ag3 (lk 0 rfl rfl) (by first | rfl | simp) (by first | rfl | simp)) ?_
            refine S.sil 56 rfl rfl (fun _ hF => .lss (lk 0 rfl rfl) cI) ?_
            refine S.sil 57 rfl rfl (fun _ hF => .move (lk 0 rfl rfl)) ?_
            first | refine S.gsil 58 3 57 false rfl rfl rfl (lk 0 rfl rfl) (fun hB _ hF => .nv (.fieldAddr lay37 rfl rfl (lk 4 rfl rfl)) (by (try simp only [List.set_cons_zero, List.set_cons_succ, List.cons_append, List.nil_append, List.append_nil, List.length_cons, List.length_nil, List.getD_cons_zero, List.getD_cons_succ, Nat.reduceAdd, Nat.reduceMul, Nat.zero_add, V.setAt_nil, V.setAt_st, V.setAt_arr, map_set']) <;> exact rfl)) ?_ | refine S.gsil 58 3 57 false rfl rfl rfl (lk 0 rfl rfl) (fun hB _ hF => .fieldAddrC lay37 rfl rfl (lk 4 rfl rfl) rfl (by first | rfl | simp)) ?_
            first | refine S.gqui 59 3 57 false rfl rfl rfl (lk 1 rfl rfl) (fun hB _ => .load sz3 ag3 (ifT hB (lk 0 rfl rfl)) (by first | rfl | simp) rfl (by first | rfl | simp [V.offOf]) (by first | rfl | (simp; done) | (simp; omega)) (by first | rfl | simp)) ?_ | refine S.gsil 59 3 57 false rfl rfl rfl (lk 1 rfl rfl) (fun hB _ hF => .loadC sz3 ag3 (ifT hB (lk 0 rfl rfl)) (by first | rfl | simp) (by first | rfl | simp)) ?_
            refine S.gsil 60 3 57 false rfl rfl rfl (lk 2 rfl rfl) (fun hB _ hF => .gtr (ifT hB (lk 0 rfl rfl)) cI) ?_
            refine S.sil 61 rfl rfl (fun _ hF => .pickOr (lk 3 rfl rfl) cB (fun h => ifT h (lk 0 rfl rfl))) ?_
            refine S.nil ?_
            refine thenQ_n ?_
            refine AWp.prune (.eq (lk 0 rfl rfl) rfl (.eq (lk 8 rfl rfl) rfl (.eq (lk 12 rfl rfl) rfl (.eq (lk 13 rfl rfl) rfl (.eq (lk 14 rfl rfl) rfl (.eq (lk 15 rfl rfl) rfl (.eq (lk 16 rfl rfl) rfl (.eq (lk 17 rfl rfl) rfl (.eq (lk 18 rfl rfl) rfl .nil))))))))) ?_
            refine AWp.cond (lk 0 rfl rfl) (fun c3 => ?_) (fun c3 => ?_)
            · try simp only [decide_eq_true_eq, decide_eq_false_iff_not, Bool.not_eq_true', Bool.not_eq_false', Bool.and_eq_true, Bool.or_eq_true, Bool.and_eq_false_iff, Bool.or_eq_false_iff, Bool.not_eq_true, Bool.not_eq_false, ite_eq_left_iff] at c3
              refine AWp.exit ?_
              refine thenQ_x ?_
              refine blockQ_x ?_
              refine thenQ_n ?_
              refine W.reg [0, 1] rfl ?_
              refine S.sil 156 rfl rfl (fun _ hF => .add (lk 8 rfl rfl) cI) ?_
              refine S.sil 50 rfl rfl (fun _ hF => .move (lk 0 rfl rfl)) ?_
              refine S.nil ?_
              refine thenQ_n ?_
              refine ⟨⟨⟨i + 1, s, seen, last⟩, by simp; omega, inv, hfirst⟩, by simp; omega, ?_⟩
              exact Wk.to 4 (by decide) rfl (.eq (lk 4 rfl rfl) rfl (.eq (lk 5 rfl rfl) rfl (.eq (lk 6 rfl rfl) rfl (.eq (lk 7 rfl rfl) rfl (.eq (lk 8 rfl rfl) rfl (.eq (lk 9 rfl rfl) rfl (.eq (lk 0 rfl rfl) (by rw [wrap_id (by omega) (by omega)]; rfl) .nil))))))) (by first | rfl | simp [envLt, V.lt]) (by first | rfl | simp [objsLt, AObj.lt, V.lt, -List.map_set])
            · try simp only [decide_eq_true_eq, decide_eq_false_iff_not, Bool.not_eq_true', Bool.not_eq_false', Bool.and_eq_true, Bool.or_eq_true, Bool.and_eq_false_iff, Bool.or_eq_false_iff, Bool.not_eq_true, Bool.not_eq_false, ite_eq_left_iff] at c3
              have hI : isR d.I = true := isR_iff.2 (by omega)
              have hIn := toNat_lt16 hI
              refine AWp.skip ?_
              refine thenQ_n ?_
              refine AWp.seq ?_
              refine W.reg [0, 1, 2, 3, 4, 5, 6] rfl ?_
              first | refine S.sil 62 rfl rfl (fun _ hF => .nv (.fieldAddr lay37 rfl rfl (lk 1 rfl rfl)) (by (try simp only [List.set_cons_zero, List.set_cons_succ, List.cons_append, List.nil_append, List.append_nil, List.length_cons, List.length_nil, List.getD_cons_zero, List.getD_cons_succ, Nat.reduceAdd, Nat.reduceMul, Nat.zero_add, V.setAt_nil, V.setAt_st, V.setAt_arr, map_set']) <;> exact rfl)) ?_ | refine S.sil 62 rfl rfl (fun _ hF => .fieldAddrC lay37 rfl rfl (lk 1 rfl rfl) rfl (by first | rfl | simp)) ?_
              first | refine S.qui 63 rfl rfl (fun _ => .load sz3 ag3 (lk 0 rfl rfl) (by first | rfl | simp) rfl (by first | rfl | simp [V.offOf]) (by first | rfl | (simp; done) | (simp; omega)) (by first | rfl | simp)) ?_ | refine S.sil 63 rfl rfl (fun _ hF => .loadC sz3 ag3 (lk 0 rfl rfl) (by first | rfl | simp) (by first | rfl | simp)) ?_
              first | refine S.sil 64 rfl rfl (fun _ hF => .nv (.indexAddr arr33 (lk 5 rfl rfl) (lk 0 rfl rfl) (isR_iff.1 hI).1 (isR_iff.1 hI).2) (by (try simp only [List.set_cons_zero, List.set_cons_succ, List.cons_append, List.nil_append, List.append_nil, List.length_cons, List.length_nil, List.getD_cons_zero, List.getD_cons_succ, Nat.reduceAdd, Nat.reduceMul, Nat.zero_add, V.setAt_nil, V.setAt_st, V.setAt_arr, map_set']) <;> exact rfl)) ?_ | refine S.sil 64 rfl rfl (fun _ hF => .indexAddrC arr33 (lk 5 rfl rfl) (lk 0 rfl rfl) (isR_iff.1 hI).1 (isR_iff.1 hI).2 rfl) ?_
              first | refine S.qui 65 rfl rfl (fun _ => .load sz23 ag23 (lk 0 rfl rfl) (by first | rfl | simp) (at_map encLock lock0 (by omega)) (by first | rfl | simp [V.offOf]) (by first | rfl | (simp; done) | (simp; omega)) (by first | rfl | simp)) ?_ | refine S.sil 65 rfl rfl (fun _ hF => .loadC sz23 ag23 (lk 0 rfl rfl) (by first | rfl | simp) (by first | rfl | simp)) ?_
              refine S.new 15 rfl rfl (.nf (.alloc zv23) (by (try simp only [List.set_cons_zero, List.set_cons_succ, List.cons_append, List.nil_append, List.append_nil, List.length_cons, List.length_nil, List.getD_cons_zero, List.getD_cons_succ, Nat.reduceAdd, Nat.reduceMul, Nat.zero_add, V.setAt_nil, V.setAt_st, V.setAt_arr, map_set']) <;> exact rfl) (by (try simp only [List.set_cons_zero, List.set_cons_succ, List.cons_append, List.nil_append, List.append_nil, List.length_cons, List.length_nil, List.getD_cons_zero, List.getD_cons_succ, Nat.reduceAdd, Nat.reduceMul, Nat.zero_add, V.setAt_nil, V.setAt_st, V.setAt_arr, map_set']) <;> exact rfl)) (by first | exact trivial | exact rfl | exact ⟨rfl, rfl⟩) ?_
              refine S.effN rfl rfl (.nf (.store sz23 (lk 0 rfl rfl) (lk 1 rfl rfl) rfl (by first | rfl | simp) rfl (by first | rfl | simp [V.offOf]) (by first | rfl | simp) (by first | rfl | simp)) (by (try simp only [List.set_cons_zero, List.set_cons_succ, List.cons_append, List.nil_append, List.append_nil, List.length_cons, List.length_nil, List.getD_cons_zero, List.getD_cons_succ, Nat.reduceAdd, Nat.reduceMul, Nat.zero_add, V.setAt_nil, V.setAt_st, V.setAt_arr, map_set']) <;> exact rfl) (by (try simp only [List.set_cons_zero, List.set_cons_succ, List.cons_append, List.nil_append, List.append_nil, List.length_cons, List.length_nil, List.getD_cons_zero, List.getD_cons_succ, Nat.reduceAdd, Nat.reduceMul, Nat.zero_add, V.setAt_nil, V.setAt_st, V.setAt_arr, map_set']) <;> exact rfl)) (by first | exact trivial | exact rfl | exact ⟨rfl, rfl⟩) ?_
              refine S.sil 16 rfl rfl (fun _ hF => .assign cI) ?_
              refine S.nil ?_
              refine thenQ_n ?_
              refine AWp.cut (ι := {p : Lock × Int // p.2 = 0 → StepO s seen last d.I p.1}) (fun ⟨⟨x, f⟩, _⟩ => ⟨[(7, .ptr 0 [] 0), (9, .ptr 1 [] 0), (11, .map 2), (12, .ptr 3 [] 0), (14, .ptr 4 [] 0), (15, .ptr 5 [] 0), (16, .int .i64 f), (48, .sl 4 .no (l.map encDo)), (49, .int .i64 ((l.length : Nat) : Int)), (50, .int .i64 (i : Int))], [.cells (encLock (newLock h v).1), .cells (.arr 4 (List.map encLock s)), .map (encSeen seen), .cells (encLock last), .cells (encDo d), .cells (encLock x)]⟩) ?_ ?_
              · skip
                refine AWp.seq ?_
                refine W.reg [0, 1] rfl ?_
                first | refine S.sil 66 rfl rfl (fun _ hF => .nv (.fieldAddr lay37 rfl rfl (lk 7 rfl rfl)) (by (try simp only [List.set_cons_zero, List.set_cons_succ, List.cons_append, List.nil_append, List.append_nil, List.length_cons, List.length_nil, List.getD_cons_zero, List.getD_cons_succ, Nat.reduceAdd, Nat.reduceMul, Nat.zero_add, V.setAt_nil, V.setAt_st, V.setAt_arr, map_set']) <;> exact rfl)) ?_ | refine S.sil 66 rfl rfl (fun _ hF => .fieldAddrC lay37 rfl rfl (lk 7 rfl rfl) rfl (by first | rfl | simp)) ?_
                first | refine S.qui 67 rfl rfl (fun _ => .load sz3 ag3 (lk 0 rfl rfl) (by first | rfl | simp) rfl (by first | rfl | simp [V.offOf]) (by first | rfl | (simp; done) | (simp; omega)) (by first | rfl | simp)) ?_ | refine S.sil 67 rfl rfl (fun _ hF => .loadC sz3 ag3 (lk 0 rfl rfl) (by first | rfl | simp) (by first | rfl | simp)) ?_
                refine S.nil ?_
                refine thenQ_n ?_
                refine AWp.block ?_
                refine AWp.seq ?_
                refine W.reg [0, 1] rfl ?_
                refine S.sil 69 rfl rfl (fun _ hF => .eql (lk 0 rfl rfl) cI) ?_
                refine S.sil 68 rfl rfl (fun _ hF => .assign (lk 0 rfl rfl)) ?_
                refine S.nil ?_
                refine thenQ_n ?_
                refine AWp.cond (lk 0 rfl rfl) (fun c4 => ?_) (fun c4 => ?_)
                · try simp only [decide_eq_true_eq, decide_eq_false_iff_not, Bool.not_eq_true', Bool.not_eq_false', Bool.and_eq_true, Bool.or_eq_true, Bool.and_eq_false_iff, Bool.or_eq_false_iff, Bool.not_eq_true, Bool.not_eq_false, ite_eq_left_iff] at c4
                  refine AWp.seq ?_
                  refine AWp.seq ?_
                  refine W.reg [0, 1, 2, 3, 4, 5, 6, 7] rfl ?_
                  first | refine S.sil 70 rfl rfl (fun _ hF => .nv (.fieldAddr lay37 rfl rfl (lk 11 rfl rfl)) (by (try simp only [List.set_cons_zero, List.set_cons_succ, List.cons_append, List.nil_append, List.append_nil, List.length_cons, List.length_nil, List.getD_cons_zero, List.getD_cons_succ, Nat.reduceAdd, Nat.reduceMul, Nat.zero_add, V.setAt_nil, V.setAt_st, V.setAt_arr, map_set']) <;> exact rfl)) ?_ | refine S.sil 70 rfl rfl (fun _ hF => .fieldAddrC lay37 rfl rfl (lk 11 rfl rfl) rfl (by first | rfl | simp)) ?_
                  first | refine S.qui 71 rfl rfl (fun _ => .load sz3 ag3 (lk 0 rfl rfl) (by first | rfl | simp) rfl (by first | rfl | simp [V.offOf]) (by first | rfl | (simp; done) | (simp; omega)) (by first | rfl | simp)) ?_ | refine S.sil 71 rfl rfl (fun _ hF => .loadC sz3 ag3 (lk 0 rfl rfl) (by first | rfl | simp) (by first | rfl | simp)) ?_
                  refine S.sil 72 rfl rfl (fun _ hF => .lss (lk 0 rfl rfl) cI) ?_
                  refine S.sil 73 rfl rfl (fun _ hF => .move (lk 0 rfl rfl)) ?_
                  first | refine S.gsil 74 3 73 false rfl rfl rfl (lk 0 rfl rfl) (fun hB _ hF => .nv (.fieldAddr lay37 rfl rfl (lk 15 rfl rfl)) (by (try simp only [List.set_cons_zero, List.set_cons_succ, List.cons_append, List.nil_append, List.append_nil, List.length_cons, List.length_nil, List.getD_cons_zero, List.getD_cons_succ, Nat.reduceAdd, Nat.reduceMul, Nat.zero_add, V.setAt_nil, V.setAt_st, V.setAt_arr, map_set']) <;> exact rfl)) ?_ | refine S.gsil 74 3 73 false rfl rfl rfl (lk 0 rfl rfl) (fun hB _ hF => .fieldAddrC lay37 rfl rfl (lk 15 rfl rfl) rfl (by first | rfl | simp)) ?_
                  first | refine S.gqui 75 3 73 false rfl rfl rfl (lk 1 rfl rfl) (fun hB _ => .load sz3 ag3 (ifT hB (lk 0 rfl rfl)) (by first | rfl | simp) rfl (by first | rfl | simp [V.offOf]) (by first | rfl | (simp; done) | (simp; omega)) (by first | rfl | simp)) ?_ | refine S.gsil 75 3 73 false rfl rfl rfl (lk 1 rfl rfl) (fun hB _ hF => .loadC sz3 ag3 (ifT hB (lk 0 rfl rfl)) (by first | rfl | simp) (by first | rfl | simp)) ?_
                  refine S.gsil 76 3 73 false rfl rfl rfl (lk 2 rfl rfl) (fun hB _ hF => .gtr (ifT hB (lk 0 rfl rfl)) cI) ?_
                  refine S.sil 77 rfl rfl (fun _ hF => .pickOr (lk 3 rfl rfl) cB (fun h => ifT h (lk 0 rfl rfl))) ?_
                  refine S.nil ?_
                  refine thenQ_n ?_
                  refine AWp.prune (.eq (lk 0 rfl rfl) rfl (.eq (lk 12 rfl rfl) rfl (.eq (lk 13 rfl rfl) rfl (.eq (lk 19 rfl rfl) rfl (.eq (lk 20 rfl rfl) rfl (.eq (lk 21 rfl rfl) rfl (.eq (lk 22 rfl rfl) rfl (.eq (lk 23 rfl rfl) rfl (.eq (lk 24 rfl rfl) rfl (.eq (lk 25 rfl rfl) rfl (.eq (lk 26 rfl rfl) rfl .nil))))))))))) ?_
                  refine AWp.cond (lk 0 rfl rfl) (fun c5 => ?_) (fun c5 => ?_)
                  · try simp only [decide_eq_true_eq, decide_eq_false_iff_not, Bool.not_eq_true', Bool.not_eq_false', Bool.and_eq_true, Bool.or_eq_true, Bool.and_eq_false_iff, Bool.or_eq_false_iff, Bool.not_eq_true, Bool.not_eq_false, ite_eq_left_iff] at c5
                    refine AWp.exit ?_
                    refine thenQ_x ?_
                    refine blockQ_o rfl ?_
                    refine thenQ_x ?_
                    refine blockQ_x ?_
                    refine thenQ_n ?_
                    refine W.reg [0, 1] rfl ?_
                    refine S.sil 156 rfl rfl (fun _ hF => .add (lk 10 rfl rfl) cI) ?_
                    refine S.sil 50 rfl rfl (fun _ hF => .move (lk 0 rfl rfl)) ?_
                    refine S.nil ?_
                    refine thenQ_n ?_
                    refine ⟨⟨⟨i + 1, s, seen, last⟩, by simp; omega, inv, hfirst⟩, by simp; omega, ?_⟩
                    exact Wk.to 4 (by decide) rfl (.eq (lk 6 rfl rfl) rfl (.eq (lk 7 rfl rfl) rfl (.eq (lk 8 rfl rfl) rfl (.eq (lk 9 rfl rfl) rfl (.eq (lk 10 rfl rfl) rfl (.eq (lk 11 rfl rfl) rfl (.eq (lk 0 rfl rfl) (by rw [wrap_id (by omega) (by omega)]; rfl) .nil))))))) (by first | rfl | simp [envLt, V.lt]) (by first | rfl | simp [objsLt, AObj.lt, V.lt, -List.map_set])
                  · try simp only [decide_eq_true_eq, decide_eq_false_iff_not, Bool.not_eq_true', Bool.not_eq_false', Bool.and_eq_true, Bool.or_eq_true, Bool.and_eq_false_iff, Bool.or_eq_false_iff, Bool.not_eq_true, Bool.not_eq_false, ite_eq_left_iff] at c5
                    refine AWp.skip ?_
                    refine thenQ_n ?_
                    refine W.reg [0, 1, 2, 3, 4, 5, 6, 7, 8, 9, 10] rfl ?_
                    first | refine S.qui 79 rfl rfl (fun _ => .load sz23 ag23 (lk 2 rfl rfl) (by first | rfl | simp) rfl (by first | rfl | simp [V.offOf]) (by first | rfl | (simp; done) | (simp; omega)) (by first | rfl | simp)) ?_ | refine S.sil 79 rfl rfl (fun _ hF => .loadC sz23 ag23 (lk 2 rfl rfl) (by first | rfl | simp) (by first | rfl | simp)) ?_
                    first | refine S.sil 80 rfl rfl (fun _ hF => .nv (.fieldAddr lay37 rfl rfl (lk 4 rfl rfl)) (by (try simp only [List.set_cons_zero, List.set_cons_succ, List.cons_append, List.nil_append, List.append_nil, List.length_cons, List.length_nil, List.getD_cons_zero, List.getD_cons_succ, Nat.reduceAdd, Nat.reduceMul, Nat.zero_add, V.setAt_nil, V.setAt_st, V.setAt_arr, map_set']) <;> exact rfl)) ?_ | refine S.sil 80 rfl rfl (fun _ hF => .fieldAddrC lay37 rfl rfl (lk 4 rfl rfl) rfl (by first | rfl | simp)) ?_
                    first | refine S.qui 81 rfl rfl (fun _ => .load sz3 ag3 (lk 0 rfl rfl) (by first | rfl | simp) rfl (by first | rfl | simp [V.offOf]) (by first | rfl | (simp; done) | (simp; omega)) (by first | rfl | simp)) ?_ | refine S.sil 81 rfl rfl (fun _ hF => .loadC sz3 ag3 (lk 0 rfl rfl) (by first | rfl | simp) (by first | rfl | simp)) ?_
                    first | refine S.sil 82 rfl rfl (fun _ hF => .nv (.fieldAddr lay37 rfl rfl (lk 6 rfl rfl)) (by (try simp only [List.set_cons_zero, List.set_cons_succ, List.cons_append, List.nil_append, List.append_nil, List.length_cons, List.length_nil, List.getD_cons_zero, List.getD_cons_succ, Nat.reduceAdd, Nat.reduceMul, Nat.zero_add, V.setAt_nil, V.setAt_st, V.setAt_arr, map_set']) <;> exact rfl)) ?_ | refine S.sil 82 rfl rfl (fun _ hF => .fieldAddrC lay37 rfl rfl (lk 6 rfl rfl) rfl (by first | rfl | simp)) ?_
                    first | refine S.qui 83 rfl rfl (fun _ => .load sz3 ag3 (lk 0 rfl rfl) (by first | rfl | simp) rfl (by first | rfl | simp [V.offOf]) (by first | rfl | (simp; done) | (simp; omega)) (by first | rfl | simp)) ?_ | refine S.sil 83 rfl rfl (fun _ hF => .loadC sz3 ag3 (lk 0 rfl rfl) (by first | rfl | simp) (by first | rfl | simp)) ?_
                    refine S.sil 84 rfl rfl (fun _ hF => .callQ ent15 cF (.c (lk 4 rfl rfl) (by first | exact V.sub.refl _ | exact V.sub.forget _ _ _ | exact V.sub.nils_no _ | exact V.sub.nils _) (.c (lk 2 rfl rfl) (by first | exact V.sub.refl _ | exact V.sub.forget _ _ _ | exact V.sub.nils_no _ | exact V.sub.nils _) (.c (lk 0 rfl rfl) (by first | exact V.sub.refl _ | exact V.sub.forget _ _ _ | exact V.sub.nils_no _ | exact V.sub.nils _) .nil))) (Write_ok _ _ _)) ?_
                    refine S.sil 78 rfl rfl (fun _ hF => .move (lk 0 rfl rfl)) ?_
                    refine S.sil 85 rfl rfl (fun _ hF => .extract (lk 0 rfl rfl) rfl) ?_
                    refine S.sil 86 rfl rfl (fun _ hF => .extract (lk 1 rfl rfl) rfl) ?_
                    refine S.effN rfl rfl (.nf (.store sz23 (lk 11 rfl rfl) (lk 1 rfl rfl) rfl (by first | rfl | simp) rfl (by first | rfl | simp [V.offOf]) (by first | rfl | simp) (by first | rfl | simp)) (by (try simp only [List.set_cons_zero, List.set_cons_succ, List.cons_append, List.nil_append, List.append_nil, List.length_cons, List.length_nil, List.getD_cons_zero, List.getD_cons_succ, Nat.reduceAdd, Nat.reduceMul, Nat.zero_add, V.setAt_nil, V.setAt_st, V.setAt_arr, map_set']) <;> exact rfl) (by (try simp only [List.set_cons_zero, List.set_cons_succ, List.cons_append, List.nil_append, List.append_nil, List.length_cons, List.length_nil, List.getD_cons_zero, List.getD_cons_succ, Nat.reduceAdd, Nat.reduceMul, Nat.zero_add, V.setAt_nil, V.setAt_st, V.setAt_arr, map_set']) <;> exact rfl)) (by first | exact trivial | exact rfl | exact ⟨rfl, rfl⟩) ?_
                    refine S.sil 16 rfl rfl (fun _ hF => .assign (lk 0 rfl rfl)) ?_
                    refine S.nil ?_
                    refine blockQ_n ?_
                    refine thenQ_n ?_
                    refine ⟨⟨⟨_, _⟩, inv.write (n := d.N) hI⟩, ?_⟩
                    exact Wk.to 6 (by decide) rfl (.eq (lk 14 rfl rfl) rfl (.eq (lk 15 rfl rfl) rfl (.eq (lk 16 rfl rfl) rfl (.eq (lk 17 rfl rfl) rfl (.eq (lk 13 rfl rfl) rfl (.eq (lk 12 rfl rfl) rfl (.eq (lk 0 rfl rfl) rfl (.eq (lk 18 rfl rfl) rfl (.eq (lk 19 rfl rfl) rfl (.eq (lk 20 rfl rfl) rfl .nil)))))))))) (by first | rfl | simp [envLt, V.lt]) (by first | rfl | simp [objsLt, AObj.lt, V.lt, -List.map_set])
                · try simp only [decide_eq_true_eq, decide_eq_false_iff_not, Bool.not_eq_true', Bool.not_eq_false', Bool.and_eq_true, Bool.or_eq_true, Bool.and_eq_false_iff, Bool.or_eq_false_iff, Bool.not_eq_true, Bool.not_eq_false, ite_eq_left_iff] at c4
                  refine AWp.seq ?_
                  refine W.reg [0, 1] rfl ?_
                  refine S.sil 88 rfl rfl (fun _ hF => .eql (lk 2 rfl rfl) cI) ?_
                  refine S.sil 87 rfl rfl (fun _ hF => .assign (lk 0 rfl rfl)) ?_
                  refine S.nil ?_
                  refine thenQ_n ?_
                  refine AWp.cond (lk 0 rfl rfl) (fun c6 => ?_) (fun c6 => ?_)
                  · try simp only [decide_eq_true_eq, decide_eq_false_iff_not, Bool.not_eq_true', Bool.not_eq_false', Bool.and_eq_true, Bool.or_eq_true, Bool.and_eq_false_iff, Bool.or_eq_false_iff, Bool.not_eq_true, Bool.not_eq_false, ite_eq_left_iff] at c6
                    refine W.reg [0, 1, 2, 3, 4, 5, 6, 7, 8, 9, 10] rfl ?_
                    first | refine S.qui 90 rfl rfl (fun _ => .load sz23 ag23 (lk 7 rfl rfl) (by first | rfl | simp) rfl (by first | rfl | simp [V.offOf]) (by first | rfl | (simp; done) | (simp; omega)) (by first | rfl | simp)) ?_ | refine S.sil 90 rfl rfl (fun _ hF => .loadC sz23 ag23 (lk 7 rfl rfl) (by first | rfl | simp) (by first | rfl | simp)) ?_
                    first | refine S.sil 91 rfl rfl (fun _ hF => .nv (.fieldAddr lay37 rfl rfl (lk 14 rfl rfl)) (by (try simp only [List.set_cons_zero, List.set_cons_succ, List.cons_append, List.nil_append, List.append_nil, List.length_cons, List.length_nil, List.getD_cons_zero, List.getD_cons_succ, Nat.reduceAdd, Nat.reduceMul, Nat.zero_add, V.setAt_nil, V.setAt_st, V.setAt_arr, map_set']) <;> exact rfl)) ?_ | refine S.sil 91 rfl rfl (fun _ hF => .fieldAddrC lay37 rfl rfl (lk 14 rfl rfl) rfl (by first | rfl | simp)) ?_
                    first | refine S.qui 92 rfl rfl (fun _ => .load sz3 ag3 (lk 0 rfl rfl) (by first | rfl | simp) rfl (by first | rfl | simp [V.offOf]) (by first | rfl | (simp; done) | (simp; omega)) (by first | rfl | simp)) ?_ | refine S.sil 92 rfl rfl (fun _ hF => .loadC sz3 ag3 (lk 0 rfl rfl) (by first | rfl | simp) (by first | rfl | simp)) ?_
                    first | refine S.sil 93 rfl rfl (fun _ hF => .nv (.fieldAddr lay37 rfl rfl (lk 16 rfl rfl)) (by (try simp only [List.set_cons_zero, List.set_cons_succ, List.cons_append, List.nil_append, List.append_nil, List.length_cons, List.length_nil, List.getD_cons_zero, List.getD_cons_succ, Nat.reduceAdd, Nat.reduceMul, Nat.zero_add, V.setAt_nil, V.setAt_st, V.setAt_arr, map_set']) <;> exact rfl)) ?_ | refine S.sil 93 rfl rfl (fun _ hF => .fieldAddrC lay37 rfl rfl (lk 16 rfl rfl) rfl (by first | rfl | simp)) ?_
                    first | refine S.qui 94 rfl rfl (fun _ => .load sz3 ag3 (lk 0 rfl rfl) (by first | rfl | simp) rfl (by first | rfl | simp [V.offOf]) (by first | rfl | (simp; done) | (simp; omega)) (by first | rfl | simp)) ?_ | refine S.sil 94 rfl rfl (fun _ hF => .loadC sz3 ag3 (lk 0 rfl rfl) (by first | rfl | simp) (by first | rfl | simp)) ?_
                    refine S.sil 95 rfl rfl (fun _ hF => .callQ ent16 cF (.c (lk 4 rfl rfl) (by first | exact V.sub.refl _ | exact V.sub.forget _ _ _ | exact V.sub.nils_no _ | exact V.sub.nils _) (.c (lk 2 rfl rfl) (by first | exact V.sub.refl _ | exact V.sub.forget _ _ _ | exact V.sub.nils_no _ | exact V.sub.nils _) (.c (lk 0 rfl rfl) (by first | exact V.sub.refl _ | exact V.sub.forget _ _ _ | exact V.sub.nils_no _ | exact V.sub.nils _) .nil))) (Pass_ok _ _ _)) ?_
                    refine S.sil 89 rfl rfl (fun _ hF => .move (lk 0 rfl rfl)) ?_
                    refine S.sil 96 rfl rfl (fun _ hF => .extract (lk 0 rfl rfl) rfl) ?_
                    refine S.sil 97 rfl rfl (fun _ hF => .extract (lk 1 rfl rfl) rfl) ?_
                    refine S.effN rfl rfl (.nf (.store sz23 (lk 16 rfl rfl) (lk 1 rfl rfl) rfl (by first | rfl | simp) rfl (by first | rfl | simp [V.offOf]) (by first | rfl | simp) (by first | rfl | simp)) (by (try simp only [List.set_cons_zero, List.set_cons_succ, List.cons_append, List.nil_append, List.append_nil, List.length_cons, List.length_nil, List.getD_cons_zero, List.getD_cons_succ, Nat.reduceAdd, Nat.reduceMul, Nat.zero_add, V.setAt_nil, V.setAt_st, V.setAt_arr, map_set']) <;> exact rfl) (by (try simp only [List.set_cons_zero, List.set_cons_succ, List.cons_append, List.nil_append, List.append_nil, List.length_cons, List.length_nil, List.getD_cons_zero, List.getD_cons_succ, Nat.reduceAdd, Nat.reduceMul, Nat.zero_add, V.setAt_nil, V.setAt_st, V.setAt_arr, map_set']) <;> exact rfl)) (by first | exact trivial | exact rfl | exact ⟨rfl, rfl⟩) ?_
                    refine S.sil 16 rfl rfl (fun _ hF => .assign (lk 0 rfl rfl)) ?_
                    refine S.nil ?_
                    refine blockQ_n ?_
                    refine thenQ_n ?_
                    refine ⟨⟨⟨_, _⟩, inv.pass (n := d.N) hI⟩, ?_⟩
                    exact Wk.to 6 (by decide) rfl (.eq (lk 24 rfl rfl) rfl (.eq (lk 25 rfl rfl) rfl (.eq (lk 26 rfl rfl) rfl (.eq (lk 27 rfl rfl) rfl (.eq (lk 23 rfl rfl) rfl (.eq (lk 17 rfl rfl) rfl (.eq (lk 0 rfl rfl) rfl (.eq (lk 28 rfl rfl) rfl (.eq (lk 29 rfl rfl) rfl (.eq (lk 30 rfl rfl) rfl .nil)))))))))) (by first | rfl | simp [envLt, V.lt]) (by first | rfl | simp [objsLt, AObj.lt, V.lt, -List.map_set])
                  · try simp only [decide_eq_true_eq, decide_eq_false_iff_not, Bool.not_eq_true', Bool.not_eq_false', Bool.and_eq_true, Bool.or_eq_true, Bool.and_eq_false_iff, Bool.or_eq_false_iff, Bool.not_eq_true, Bool.not_eq_false, ite_eq_left_iff] at c6
                    refine AWp.seq ?_
                    refine W.reg [0, 1] rfl ?_
                    refine S.sil 99 rfl rfl (fun _ hF => .eql (lk 4 rfl rfl) cI) ?_
                    refine S.sil 98 rfl rfl (fun _ hF => .assign (lk 0 rfl rfl)) ?_
                    refine S.nil ?_
                    refine thenQ_n ?_
                    refine AWp.prune (.eq (lk 0 rfl rfl) rfl (.eq (lk 8 rfl rfl) rfl (.eq (lk 9 rfl rfl) rfl (.eq (lk 15 rfl rfl) rfl (.eq (lk 16 rfl rfl) rfl (.eq (lk 17 rfl rfl) rfl (.eq (lk 18 rfl rfl) rfl (.eq (lk 19 rfl rfl) rfl (.eq (lk 20 rfl rfl) rfl (.eq (lk 21 rfl rfl) rfl (.eq (lk 22 rfl rfl) rfl .nil))))))))))) ?_
                    refine AWp.cond (lk 0 rfl rfl) (fun c7 => ?_) (fun c7 => ?_)
                    · try simp only [decide_eq_true_eq, decide_eq_false_iff_not, Bool.not_eq_true', Bool.not_eq_false', Bool.and_eq_true, Bool.or_eq_true, Bool.and_eq_false_iff, Bool.or_eq_false_iff, Bool.not_eq_true, Bool.not_eq_false, ite_eq_left_iff] at c7
                      refine AWp.seq ?_
                      refine W.reg [0, 1, 2, 3, 4, 5, 6, 7] rfl ?_
                      first | refine S.sil 100 rfl rfl (fun _ hF => .nv (.fieldAddr lay37 rfl rfl (lk 3 rfl rfl)) (by (try simp only [List.set_cons_zero, List.set_cons_succ, List.cons_append, List.nil_append, List.append_nil, List.length_cons, List.length_nil, List.getD_cons_zero, List.getD_cons_succ, Nat.reduceAdd, Nat.reduceMul, Nat.zero_add, V.setAt_nil, V.setAt_st, V.setAt_arr, map_set']) <;> exact rfl)) ?_ | refine S.sil 100 rfl rfl (fun _ hF => .fieldAddrC lay37 rfl rfl (lk 3 rfl rfl) rfl (by first | rfl | simp)) ?_
                      first | refine S.qui 101 rfl rfl (fun _ => .load sz3 ag3 (lk 0 rfl rfl) (by first | rfl | simp) rfl (by first | rfl | simp [V.offOf]) (by first | rfl | (simp; done) | (simp; omega)) (by first | rfl | simp)) ?_ | refine S.sil 101 rfl rfl (fun _ hF => .loadC sz3 ag3 (lk 0 rfl rfl) (by first | rfl | simp) (by first | rfl | simp)) ?_
                      refine S.sil 102 rfl rfl (fun _ hF => .geq (lk 0 rfl rfl) cI) ?_
                      refine S.sil 103 rfl rfl (fun _ hF => .move (lk 0 rfl rfl)) ?_
                      first | refine S.gsil 104 3 103 true rfl rfl rfl (lk 0 rfl rfl) (fun hB _ hF => .nv (.fieldAddr lay37 rfl rfl (lk 7 rfl rfl)) (by (try simp only [List.set_cons_zero, List.set_cons_succ, List.cons_append, List.nil_append, List.append_nil, List.length_cons, List.length_nil, List.getD_cons_zero, List.getD_cons_succ, Nat.reduceAdd, Nat.reduceMul, Nat.zero_add, V.setAt_nil, V.setAt_st, V.setAt_arr, map_set']) <;> exact rfl)) ?_ | refine S.gsil 104 3 103 true rfl rfl rfl (lk 0 rfl rfl) (fun hB _ hF => .fieldAddrC lay37 rfl rfl (lk 7 rfl rfl) rfl (by first | rfl | simp)) ?_
                      first | refine S.gqui 105 3 103 true rfl rfl rfl (lk 1 rfl rfl) (fun hB _ => .load sz3 ag3 (ifT hB (lk 0 rfl rfl)) (by first | rfl | simp) rfl (by first | rfl | simp [V.offOf]) (by first | rfl | (simp; done) | (simp; omega)) (by first | rfl | simp)) ?_ | refine S.gsil 105 3 103 true rfl rfl rfl (lk 1 rfl rfl) (fun hB _ hF => .loadC sz3 ag3 (ifT hB (lk 0 rfl rfl)) (by first | rfl | simp) (by first | rfl | simp)) ?_
                      refine S.gsil 106 3 103 true rfl rfl rfl (lk 2 rfl rfl) (fun hB _ hF => .leq (ifT hB (lk 0 rfl rfl)) cI) ?_
                      refine S.sil 107 rfl rfl (fun _ hF => .pickAnd (lk 3 rfl rfl) (fun h => ifT h (lk 0 rfl rfl)) cB) ?_
                      refine S.nil ?_
                      refine thenQ_n ?_
                      refine AWp.cond (lk 0 rfl rfl) (fun c8 => ?_) (fun c8 => ?_)
                      · try simp only [decide_eq_true_eq, decide_eq_false_iff_not, Bool.not_eq_true', Bool.not_eq_false', Bool.and_eq_true, Bool.or_eq_true, Bool.and_eq_false_iff, Bool.or_eq_false_iff, Bool.not_eq_true, Bool.not_eq_false, ite_eq_left_iff] at c8
                        have hK : isR d.K = true := isR_iff.2 (by omega)
                        have hKn := toNat_lt16 hK
                        refine W.regD [0, 1, 2, 3, 4, 5, 6] mixed ?_
                        first | refine S.qui 108 rfl rfl (fun _ => .load sz23 ag23 (lk 10 rfl rfl) (by first | rfl | simp) rfl (by first | rfl | simp [V.offOf]) (by first | rfl | (simp; done) | (simp; omega)) (by first | rfl | simp)) ?_ | refine S.sil 108 rfl rfl (fun _ hF => .loadC sz23 ag23 (lk 10 rfl rfl) (by first | rfl | simp) (by first | rfl | simp)) ?_
                        first | refine S.sil 109 rfl rfl (fun _ hF => .nv (.fieldAddr lay37 rfl rfl (lk 12 rfl rfl)) (by (try simp only [List.set_cons_zero, List.set_cons_succ, List.cons_append, List.nil_append, List.append_nil, List.length_cons, List.length_nil, List.getD_cons_zero, List.getD_cons_succ, Nat.reduceAdd, Nat.reduceMul, Nat.zero_add, V.setAt_nil, V.setAt_st, V.setAt_arr, map_set']) <;> exact rfl)) ?_ | refine S.sil 109 rfl rfl (fun _ hF => .fieldAddrC lay37 rfl rfl (lk 12 rfl rfl) rfl (by first | rfl | simp)) ?_
                        first | refine S.qui 110 rfl rfl (fun _ => .load sz3 ag3 (lk 0 rfl rfl) (by first | rfl | simp) rfl (by first | rfl | simp [V.offOf]) (by first | rfl | (simp; done) | (simp; omega)) (by first | rfl | simp)) ?_ | refine S.sil 110 rfl rfl (fun _ hF => .loadC sz3 ag3 (lk 0 rfl rfl) (by first | rfl | simp) (by first | rfl | simp)) ?_
                        first | refine S.sil 111 rfl rfl (fun _ hF => .nv (.indexAddr arr33 (lk 16 rfl rfl) (lk 0 rfl rfl) (isR_iff.1 hK).1 (isR_iff.1 hK).2) (by (try simp only [List.set_cons_zero, List.set_cons_succ, List.cons_append, List.nil_append, List.append_nil, List.length_cons, List.length_nil, List.getD_cons_zero, List.getD_cons_succ, Nat.reduceAdd, Nat.reduceMul, Nat.zero_add, V.setAt_nil, V.setAt_st, V.setAt_arr, map_set']) <;> exact rfl)) ?_ | refine S.sil 111 rfl rfl (fun _ hF => .indexAddrC arr33 (lk 16 rfl rfl) (lk 0 rfl rfl) (isR_iff.1 hK).1 (isR_iff.1 hK).2 rfl) ?_
                        first | refine S.qui 112 rfl rfl (fun _ => .load sz23 ag23 (lk 0 rfl rfl) (by first | rfl | simp) (at_map encLock lock0 (by omega)) (by first | rfl | simp [V.offOf]) (by first | rfl | (simp; done) | (simp; omega)) (by first | rfl | simp)) ?_ | refine S.sil 112 rfl rfl (fun _ hF => .loadC sz23 ag23 (lk 0 rfl rfl) (by first | rfl | simp) (by first | rfl | simp)) ?_
                        refine S.sil 113 rfl rfl (fun _ hF => .callQ ent11 cF (.c (lk 4 rfl rfl) (by first | exact V.sub.refl _ | exact V.sub.forget _ _ _ | exact V.sub.nils_no _ | exact V.sub.nils _) (.c (lk 0 rfl rfl) (by first | exact V.sub.refl _ | exact V.sub.forget _ _ _ | exact V.sub.nils_no _ | exact V.sub.nils _) .nil)) (Join_ok _ _)) ?_
                        refine S.effN rfl rfl (.nf (.store sz23 (lk 16 rfl rfl) (lk 0 rfl rfl) rfl (by first | rfl | simp) rfl (by first | rfl | simp [V.offOf]) (by first | rfl | simp) (by first | rfl | simp)) (by (try simp only [List.set_cons_zero, List.set_cons_succ, List.cons_append, List.nil_append, List.append_nil, List.length_cons, List.length_nil, List.getD_cons_zero, List.getD_cons_succ, Nat.reduceAdd, Nat.reduceMul, Nat.zero_add, V.setAt_nil, V.setAt_st, V.setAt_arr, map_set']) <;> exact rfl) (by (try simp only [List.set_cons_zero, List.set_cons_succ, List.cons_append, List.nil_append, List.append_nil, List.length_cons, List.length_nil, List.getD_cons_zero, List.getD_cons_succ, Nat.reduceAdd, Nat.reduceMul, Nat.zero_add, V.setAt_nil, V.setAt_st, V.setAt_arr, map_set']) <;> exact rfl)) (by first | exact trivial | exact rfl | exact ⟨rfl, rfl⟩) ?_
                        refine S.nilD (by kernel_rfl) ?_
                        refine blockQ_n ?_
                        refine thenQ_n ?_
                        refine ⟨⟨⟨_, 0⟩, fun _ => inv.join hI hK⟩, ?_⟩
                        exact Wk.to 6 (by decide) rfl (.eq (lk 18 rfl rfl) rfl (.eq (lk 19 rfl rfl) rfl (.eq (lk 20 rfl rfl) rfl (.eq (lk 21 rfl rfl) rfl (.eq (lk 17 rfl rfl) rfl (.eq (lk 16 rfl rfl) rfl (.eq (lk 15 rfl rfl) rfl (.eq (lk 22 rfl rfl) rfl (.eq (lk 23 rfl rfl) rfl (.eq (lk 24 rfl rfl) rfl .nil)))))))))) (by first | rfl | simp [envLt, V.lt]) (by first | rfl | simp [objsLt, AObj.lt, V.lt, -List.map_set])
                      · try simp only [decide_eq_true_eq, decide_eq_false_iff_not, Bool.not_eq_true', Bool.not_eq_false', Bool.and_eq_true, Bool.or_eq_true, Bool.and_eq_false_iff, Bool.or_eq_false_iff, Bool.not_eq_true, Bool.not_eq_false, ite_eq_left_iff] at c8
                        refine AWp.skip ?_
                        refine blockQ_n ?_
                        refine thenQ_n ?_
                        refine ⟨⟨⟨s.getD d.I.toNat lock0, 0⟩, fun _ => inv.keep hI⟩, ?_⟩
                        exact Wk.to 6 (by decide) rfl (.eq (lk 12 rfl rfl) rfl (.eq (lk 13 rfl rfl) rfl (.eq (lk 14 rfl rfl) rfl (.eq (lk 15 rfl rfl) rfl (.eq (lk 11 rfl rfl) rfl (.eq (lk 10 rfl rfl) rfl (.eq (lk 9 rfl rfl) rfl (.eq (lk 16 rfl rfl) rfl (.eq (lk 17 rfl rfl) rfl (.eq (lk 18 rfl rfl) rfl .nil)))))))))) (by first | rfl | simp [envLt, V.lt]) (by first | rfl | simp [objsLt, AObj.lt, V.lt, -List.map_set])
                    · try simp only [decide_eq_true_eq, decide_eq_false_iff_not, Bool.not_eq_true', Bool.not_eq_false', Bool.and_eq_true, Bool.or_eq_true, Bool.and_eq_false_iff, Bool.or_eq_false_iff, Bool.not_eq_true, Bool.not_eq_false, ite_eq_left_iff] at c7
                      refine AWp.skip ?_
                      refine blockQ_n ?_
                      refine thenQ_n ?_
                      refine ⟨⟨⟨s.getD d.I.toNat lock0, 0⟩, fun _ => inv.keep hI⟩, ?_⟩
                      exact Wk.to 6 (by decide) rfl (.eq (lk 4 rfl rfl) rfl (.eq (lk 5 rfl rfl) rfl (.eq (lk 6 rfl rfl) rfl (.eq (lk 7 rfl rfl) rfl (.eq (lk 3 rfl rfl) rfl (.eq (lk 2 rfl rfl) rfl (.eq (lk 1 rfl rfl) rfl (.eq (lk 8 rfl rfl) rfl (.eq (lk 9 rfl rfl) rfl (.eq (lk 10 rfl rfl) rfl .nil)))))))))) (by first | rfl | simp [envLt, V.lt]) (by first | rfl | simp [objsLt, AObj.lt, V.lt, -List.map_set])
              · rintro ⟨⟨x, f⟩, hgood⟩
                have hgood : f = 0 → StepO s seen last d.I x := hgood
                refine AWp.seq ?_
                refine AWp.seq ?_
                refine W.reg [0, 1] rfl ?_
                refine S.sil 114 rfl rfl (fun _ hF => .move (lk 6 rfl rfl)) ?_
                refine S.sil 115 rfl rfl (fun _ hF => .neq (lk 0 rfl rfl) cI) ?_
                refine S.nil ?_
                refine thenQ_n ?_
                refine AWp.cond (lk 0 rfl rfl) (fun c9 => ?_) (fun c9 => ?_)
                · try simp only [decide_eq_true_eq, decide_eq_false_iff_not, Bool.not_eq_true', Bool.not_eq_false', Bool.and_eq_true, Bool.or_eq_true, Bool.and_eq_false_iff, Bool.or_eq_false_iff, Bool.not_eq_true, Bool.not_eq_false, ite_eq_left_iff] at c9
                  refine AWp.exit ?_
                  refine thenQ_x ?_
                  refine blockQ_x ?_
                  refine thenQ_n ?_
                  refine W.reg [0, 1] rfl ?_
                  refine S.sil 156 rfl rfl (fun _ hF => .add (lk 11 rfl rfl) cI) ?_
                  refine S.sil 50 rfl rfl (fun _ hF => .move (lk 0 rfl rfl)) ?_
                  refine S.nil ?_
                  refine thenQ_n ?_
                  refine ⟨⟨⟨i + 1, s, seen, last⟩, by simp; omega, inv, hfirst⟩, by simp; omega, ?_⟩
                  exact Wk.to 4 (by decide) rfl (.eq (lk 4 rfl rfl) rfl (.eq (lk 5 rfl rfl) rfl (.eq (lk 6 rfl rfl) rfl (.eq (lk 7 rfl rfl) rfl (.eq (lk 11 rfl rfl) rfl (.eq (lk 12 rfl rfl) rfl (.eq (lk 0 rfl rfl) (by rw [wrap_id (by omega) (by omega)]; rfl) .nil))))))) (by first | rfl | simp [envLt, V.lt]) (by first | rfl | simp [objsLt, AObj.lt, V.lt, -List.map_set])
                · try simp only [decide_eq_true_eq, decide_eq_false_iff_not, Bool.not_eq_true', Bool.not_eq_false', Bool.and_eq_true, Bool.or_eq_true, Bool.and_eq_false_iff, Bool.or_eq_false_iff, Bool.not_eq_true, Bool.not_eq_false, ite_eq_left_iff] at c9
                  rcases hgood c9 with ⟨hin, hO⟩ | ⟨hfr, hg, hO⟩
                  · have hget := getM_some hin
                    have hput := putM_old hin
                    have hkey := key34_ok (inv.num x hin).1 (inv.num x hin).2
                    refine AWp.skip ?_
                    refine thenQ_n ?_
                    refine AWp.seq ?_
                    refine W.reg [0, 1, 2, 3, 4] rfl ?_
                    first | refine S.sil 116 rfl rfl (fun _ hF => .nv (.fieldAddr lay37 rfl rfl (lk 6 rfl rfl)) (by (try simp only [List.set_cons_zero, List.set_cons_succ, List.cons_append, List.nil_append, List.append_nil, List.length_cons, List.length_nil, List.getD_cons_zero, List.getD_cons_succ, Nat.reduceAdd, Nat.reduceMul, Nat.zero_add, V.setAt_nil, V.setAt_st, V.setAt_arr, map_set']) <;> exact rfl)) ?_ | refine S.sil 116 rfl rfl (fun _ hF => .fieldAddrC lay37 rfl rfl (lk 6 rfl rfl) rfl (by first | rfl | simp)) ?_
                    first | refine S.qui 117 rfl rfl (fun _ => .load sz3 ag3 (lk 0 rfl rfl) (by first | rfl | simp) rfl (by first | rfl | simp [V.offOf]) (by first | rfl | (simp; done) | (simp; omega)) (by first | rfl | simp)) ?_ | refine S.sil 117 rfl rfl (fun _ hF => .loadC sz3 ag3 (lk 0 rfl rfl) (by first | rfl | simp) (by first | rfl | simp)) ?_
                    first | refine S.qui 118 rfl rfl (fun _ => .load sz23 ag23 (lk 9 rfl rfl) (by first | rfl | simp) rfl (by first | rfl | simp [V.offOf]) (by first | rfl | (simp; done) | (simp; omega)) (by first | rfl | simp)) ?_ | refine S.sil 118 rfl rfl (fun _ hF => .loadC sz23 ag23 (lk 9 rfl rfl) (by first | rfl | simp) (by first | rfl | simp)) ?_
                    first | refine S.sil 119 rfl rfl (fun _ hF => .nv (.indexAddr arr33 (lk 6 rfl rfl) (lk 1 rfl rfl) (isR_iff.1 hI).1 (isR_iff.1 hI).2) (by (try simp only [List.set_cons_zero, List.set_cons_succ, List.cons_append, List.nil_append, List.append_nil, List.length_cons, List.length_nil, List.getD_cons_zero, List.getD_cons_succ, Nat.reduceAdd, Nat.reduceMul, Nat.zero_add, V.setAt_nil, V.setAt_st, V.setAt_arr, map_set']) <;> exact rfl)) ?_ | refine S.sil 119 rfl rfl (fun _ hF => .indexAddrC arr33 (lk 6 rfl rfl) (lk 1 rfl rfl) (isR_iff.1 hI).1 (isR_iff.1 hI).2 rfl) ?_
                    refine S.effN rfl rfl (.nf (.store sz23 (lk 0 rfl rfl) (lk 1 rfl rfl) rfl (by first | rfl | simp) (at_map encLock lock0 (by omega)) (by first | rfl | simp [V.offOf]) (by first | rfl | simp) (by first | rfl | simp)) (by (try simp only [List.set_cons_zero, List.set_cons_succ, List.cons_append, List.nil_append, List.append_nil, List.length_cons, List.length_nil, List.getD_cons_zero, List.getD_cons_succ, Nat.reduceAdd, Nat.reduceMul, Nat.zero_add, V.setAt_nil, V.setAt_st, V.setAt_arr, map_set']) <;> exact rfl) (by (try simp only [List.set_cons_zero, List.set_cons_succ, List.cons_append, List.nil_append, List.append_nil, List.length_cons, List.length_nil, List.getD_cons_zero, List.getD_cons_succ, Nat.reduceAdd, Nat.reduceMul, Nat.zero_add, V.setAt_nil, V.setAt_st, V.setAt_arr, map_set']) <;> exact rfl)) (by first | exact trivial | exact rfl | exact ⟨rfl, rfl⟩) ?_
                    refine S.nil ?_
                    refine thenQ_n ?_
                    refine AWp.seq ?_
                    refine W.reg [0, 1, 2, 3, 4, 5, 6, 7, 8, 9, 10, 11, 12] rfl ?_
                    refine S.sil 121 rfl rfl (fun _ hF => .move (lk 8 rfl rfl)) ?_
                    first | refine S.sil 122 rfl rfl (fun _ hF => .nv (.fieldAddr lay23 rfl rfl (lk 12 rfl rfl)) (by (try simp only [List.set_cons_zero, List.set_cons_succ, List.cons_append, List.nil_append, List.append_nil, List.length_cons, List.length_nil, List.getD_cons_zero, List.getD_cons_succ, Nat.reduceAdd, Nat.reduceMul, Nat.zero_add, V.setAt_nil, V.setAt_st, V.setAt_arr, map_set']) <;> exact rfl)) ?_ | refine S.sil 122 rfl rfl (fun _ hF => .fieldAddrC lay23 rfl rfl (lk 12 rfl rfl) rfl (by first | rfl | simp)) ?_
                    first | refine S.qui 123 rfl rfl (fun _ => .load sz3 ag3 (lk 0 rfl rfl) (by first | rfl | simp) rfl (by first | rfl | simp [V.offOf]) (by first | rfl | (simp; done) | (simp; omega)) (by first | rfl | simp)) ?_ | refine S.sil 123 rfl rfl (fun _ hF => .loadC sz3 ag3 (lk 0 rfl rfl) (by first | rfl | simp) (by first | rfl | simp)) ?_
                    first | refine S.sil 124 rfl rfl (fun _ hF => .nv (.fieldAddr lay23 rfl rfl (lk 14 rfl rfl)) (by (try simp only [List.set_cons_zero, List.set_cons_succ, List.cons_append, List.nil_append, List.append_nil, List.length_cons, List.length_nil, List.getD_cons_zero, List.getD_cons_succ, Nat.reduceAdd, Nat.reduceMul, Nat.zero_add, V.setAt_nil, V.setAt_st, V.setAt_arr, map_set']) <;> exact rfl)) ?_ | refine S.sil 124 rfl rfl (fun _ hF => .fieldAddrC lay23 rfl rfl (lk 14 rfl rfl) rfl (by first | rfl | simp)) ?_
                    first | refine S.qui 125 rfl rfl (fun _ => .load sz3 ag3 (lk 0 rfl rfl) (by first | rfl | simp) rfl (by first | rfl | simp [V.offOf]) (by first | rfl | (simp; done) | (simp; omega)) (by first | rfl | simp)) ?_ | refine S.sil 125 rfl rfl (fun _ hF => .loadC sz3 ag3 (lk 0 rfl rfl) (by first | rfl | simp) (by first | rfl | simp)) ?_
                    refine S.sil 126 rfl rfl (fun _ hF => .buildArrL arr34 zv34 (.cons (lk 2 rfl rfl) rfl (by first | rfl | simp) (by first | rfl | simp) (.cons (lk 0 rfl rfl) rfl (by first | rfl | simp) (by first | rfl | simp) .nil)) rfl rfl) ?_
                    refine S.qui 127 rfl rfl (fun _ => .lookup und35 key34 zv23 (lk 5 rfl rfl) (lk 0 rfl rfl) (by first | rfl | simp) hkey hes hnd hget (by first | rfl | simp)) ?_
                    refine S.sil 120 rfl rfl (fun _ hF => .move (lk 0 rfl rfl)) ?_
                    refine S.sil 128 rfl rfl (fun _ hF => .extract (lk 0 rfl rfl) rfl) ?_
                    refine S.sil 129 rfl rfl (fun _ hF => .extract (lk 1 rfl rfl) rfl) ?_
                    refine S.new 17 rfl rfl (.nf (.alloc zv23) (by (try simp only [List.set_cons_zero, List.set_cons_succ, List.cons_append, List.nil_append, List.append_nil, List.length_cons, List.length_nil, List.getD_cons_zero, List.getD_cons_succ, Nat.reduceAdd, Nat.reduceMul, Nat.zero_add, V.setAt_nil, V.setAt_st, V.setAt_arr, map_set']) <;> exact rfl) (by (try simp only [List.set_cons_zero, List.set_cons_succ, List.cons_append, List.nil_append, List.append_nil, List.length_cons, List.length_nil, List.getD_cons_zero, List.getD_cons_succ, Nat.reduceAdd, Nat.reduceMul, Nat.zero_add, V.setAt_nil, V.setAt_st, V.setAt_arr, map_set']) <;> exact rfl)) (by first | exact trivial | exact rfl | exact ⟨rfl, rfl⟩) ?_
                    refine S.effN rfl rfl (.nf (.store sz23 (lk 0 rfl rfl) (lk 2 rfl rfl) rfl (by first | rfl | simp) rfl (by first | rfl | simp [V.offOf]) (by first | rfl | simp) (by first | rfl | simp)) (by (try simp only [List.set_cons_zero, List.set_cons_succ, List.cons_append, List.nil_append, List.append_nil, List.length_cons, List.length_nil, List.getD_cons_zero, List.getD_cons_succ, Nat.reduceAdd, Nat.reduceMul, Nat.zero_add, V.setAt_nil, V.setAt_st, V.setAt_arr, map_set']) <;> exact rfl) (by (try simp only [List.set_cons_zero, List.set_cons_succ, List.cons_append, List.nil_append, List.append_nil, List.length_cons, List.length_nil, List.getD_cons_zero, List.getD_cons_succ, Nat.reduceAdd, Nat.reduceMul, Nat.zero_add, V.setAt_nil, V.setAt_st, V.setAt_arr, map_set']) <;> exact rfl)) (by first | exact trivial | exact rfl | exact ⟨rfl, rfl⟩) ?_
                    refine S.sil 18 rfl rfl (fun _ hF => .assign (lk 1 rfl rfl)) ?_
                    refine S.nil ?_
                    refine thenQ_n ?_
                    refine AWp.prune (.eq (lk 0 rfl rfl) rfl (.eq (lk 1 rfl rfl) rfl (.eq (lk 18 rfl rfl) rfl (.eq (lk 19 rfl rfl) rfl (.eq (lk 20 rfl rfl) rfl (.eq (lk 21 rfl rfl) rfl (.eq (lk 23 rfl rfl) rfl (.eq (lk 25 rfl rfl) rfl (.eq (lk 26 rfl rfl) rfl (.eq (lk 27 rfl rfl) rfl .nil)))))))))) ?_
                    refine AWp.seq ?_
                    refine AWp.seq ?_
                    refine W.reg [0, 1, 2, 3, 4, 5, 6, 7, 8, 9, 10, 11, 12, 13, 14, 15] rfl ?_
                    refine S.sil 130 rfl rfl (fun _ hF => .move (lk 0 rfl rfl)) ?_
                    refine S.sil 131 rfl rfl (fun _ hF => .move (lk 0 rfl rfl)) ?_
                    first | refine S.gqui 132 1 131 true rfl rfl rfl (lk 0 rfl rfl) (fun hB _ => .load sz23 ag23 (lk 3 rfl rfl) (by first | rfl | simp) rfl (by first | rfl | simp [V.offOf]) (by first | rfl | (simp; done) | (simp; omega)) (by first | rfl | simp)) ?_ | refine S.gsil 132 1 131 true rfl rfl rfl (lk 0 rfl rfl) (fun hB _ hF => .loadC sz23 ag23 (lk 3 rfl rfl) (by first | rfl | simp) (by first | rfl | simp)) ?_
                    first | refine S.gqui 133 1 131 true rfl rfl rfl (lk 1 rfl rfl) (fun hB _ => .load sz23 ag23 (lk 9 rfl rfl) (by first | rfl | simp) rfl (by first | rfl | simp [V.offOf]) (by first | rfl | (simp; done) | (simp; omega)) (by first | rfl | simp)) ?_ | refine S.gsil 133 1 131 true rfl rfl rfl (lk 1 rfl rfl) (fun hB _ hF => .loadC sz23 ag23 (lk 9 rfl rfl) (by first | rfl | simp) (by first | rfl | simp)) ?_
                    refine S.gsil 134 1 131 true rfl rfl rfl (lk 2 rfl rfl) (fun hB _ hF => .neqV eqt23 (ifT hB (lk 1 rfl rfl)) (ifT hB (lk 0 rfl rfl)) (by first | rfl | simp) (by first | rfl | simp) rfl rfl) ?_
                    refine S.sil 135 rfl rfl (fun _ hF => .pickAnd (lk 3 rfl rfl) (fun h => ifT h (lk 0 rfl rfl)) cB) ?_
                    refine S.sil 136 rfl rfl (fun _ hF => .move (lk 0 rfl rfl)) ?_
                    refine S.gsil 137 6 136 false rfl rfl rfl (lk 0 rfl rfl) (fun hB _ hF => .move (lk 7 rfl rfl)) ?_
                    refine S.gsil 138 6 136 false rfl rfl rfl (lk 1 rfl rfl) (fun hB _ hF => .not (ifT hB (lk 0 rfl rfl))) ?_
                    refine S.gsil 139 6 136 false rfl rfl rfl (lk 2 rfl rfl) (fun hB _ hF => .move (ifT hB (lk 0 rfl rfl))) ?_
                    first | refine S.gqui2 140 9 139 true rfl rfl rfl (lk 0 rfl rfl) (fun hB _ => .load sz23 ag23 (lk 16 rfl rfl) (by first | rfl | simp) rfl (by first | rfl | simp [V.offOf]) (by first | rfl | (simp; done) | (simp; omega)) (by first | rfl | simp)) ?_ | refine S.gsil2 140 9 139 true rfl rfl rfl (lk 0 rfl rfl) (fun hB _ hF => .loadC sz23 ag23 (lk 16 rfl rfl) (by first | rfl | simp) (by first | rfl | simp)) ?_
                    first | refine S.gqui2 141 9 139 true rfl rfl rfl (lk 1 rfl rfl) (fun hB _ => .load sz23 ag23 (lk 16 rfl rfl) (by first | rfl | simp) rfl (by first | rfl | simp [V.offOf]) (by first | rfl | (simp; done) | (simp; omega)) (by first | rfl | simp)) ?_ | refine S.gsil2 141 9 139 true rfl rfl rfl (lk 1 rfl rfl) (fun hB _ hF => .loadC sz23 ag23 (lk 16 rfl rfl) (by first | rfl | simp) (by first | rfl | simp)) ?_
                    refine S.gsil2 142 9 139 true rfl rfl rfl (lk 2 rfl rfl) (fun hB _ hF => .callQ ent9 cF (.c (ifT hB (lk 1 rfl rfl)) (by first | exact V.sub.refl _ | exact V.sub.forget _ _ _ | exact V.sub.nils_no _ | exact V.sub.nils _) (.c (ifT hB (lk 0 rfl rfl)) (by first | exact V.sub.refl _ | exact V.sub.forget _ _ _ | exact V.sub.nils_no _ | exact V.sub.nils _) .nil)) (Compare_ok _ _)) ?_
                    refine S.gsil2 143 9 139 true rfl rfl rfl (lk 3 rfl rfl) (fun hB _ hF => .leq (ifT hB (lk 0 rfl rfl)) cI) ?_
                    refine S.gsil 144 6 136 false rfl rfl rfl (lk 7 rfl rfl) (fun hB _ hF => .pickAnd (ifT hB (lk 4 rfl rfl)) (fun h => ifT ⟨hB, h⟩ (lk 0 rfl rfl)) cB) ?_
                    refine S.sil 145 rfl rfl (fun _ hF => .pickOr (lk 8 rfl rfl) cB (fun h => ifT h (lk 0 rfl rfl))) ?_
                    refine S.nil ?_
                    refine thenQ_n ?_
                    refine AWp.prune (.eq (lk 0 rfl rfl) rfl (.eq (lk 16 rfl rfl) rfl (.eq (lk 18 rfl rfl) rfl (.eq (lk 19 rfl rfl) rfl (.eq (lk 20 rfl rfl) rfl (.eq (lk 21 rfl rfl) rfl (.eq (lk 22 rfl rfl) rfl (.eq (lk 23 rfl rfl) rfl (.eq (lk 24 rfl rfl) rfl (.eq (lk 25 rfl rfl) rfl .nil)))))))))) ?_
                    refine AWp.cond (lk 0 rfl rfl) (fun c10 => ?_) (fun c10 => ?_)
                    · try simp only [decide_eq_true_eq, decide_eq_false_iff_not, Bool.not_eq_true', Bool.not_eq_false', Bool.and_eq_true, Bool.or_eq_true, Bool.and_eq_false_iff, Bool.or_eq_false_iff, Bool.not_eq_true, Bool.not_eq_false, ite_eq_left_iff] at c10
                      exfalso
                      rcases c10 with ⟨_, c⟩ | ⟨c, _⟩
                      · change eqV (encLock x) (encLock x) = false at c
                        simp at c
                      · cases c
                    · try simp only [decide_eq_true_eq, decide_eq_false_iff_not, Bool.not_eq_true', Bool.not_eq_false', Bool.and_eq_true, Bool.or_eq_true, Bool.and_eq_false_iff, Bool.or_eq_false_iff, Bool.not_eq_true, Bool.not_eq_false, ite_eq_left_iff] at c10
                      refine AWp.skip ?_
                      refine thenQ_n ?_
                      refine AWp.seq ?_
                      refine AWp.seq ?_
                      refine W.reg [0, 1] rfl ?_
                      refine S.sil 146 rfl rfl (fun _ hF => .move (lk 1 rfl rfl)) ?_
                      refine S.sil 147 rfl rfl (fun _ hF => .not (lk 0 rfl rfl)) ?_
                      refine S.nil ?_
                      refine thenQ_n ?_
                      refine AWp.cond (lk 0 rfl rfl) (fun c11 => ?_) (fun c11 => ?_)
                      · try simp only [decide_eq_true_eq, decide_eq_false_iff_not, Bool.not_eq_true', Bool.not_eq_false', Bool.and_eq_true, Bool.or_eq_true, Bool.and_eq_false_iff, Bool.or_eq_false_iff, Bool.not_eq_true, Bool.not_eq_false, ite_eq_left_iff] at c11
                        cases c11
                      · try simp only [decide_eq_true_eq, decide_eq_false_iff_not, Bool.not_eq_true', Bool.not_eq_false', Bool.and_eq_true, Bool.or_eq_true, Bool.and_eq_false_iff, Bool.or_eq_false_iff, Bool.not_eq_true, Bool.not_eq_false, ite_eq_left_iff] at c11
                        refine AWp.skip ?_
                        refine thenQ_n ?_
                        refine W.reg [0, 1, 2, 3, 4, 5, 6, 7] rfl ?_
                        refine S.sil 149 rfl rfl (fun _ hF => .move (lk 6 rfl rfl)) ?_
                        first | refine S.sil 150 rfl rfl (fun _ hF => .nv (.fieldAddr lay23 rfl rfl (lk 9 rfl rfl)) (by (try simp only [List.set_cons_zero, List.set_cons_succ, List.cons_append, List.nil_append, List.append_nil, List.length_cons, List.length_nil, List.getD_cons_zero, List.getD_cons_succ, Nat.reduceAdd, Nat.reduceMul, Nat.zero_add, V.setAt_nil, V.setAt_st, V.setAt_arr, map_set']) <;> exact rfl)) ?_ | refine S.sil 150 rfl rfl (fun _ hF => .fieldAddrC lay23 rfl rfl (lk 9 rfl rfl) rfl (by first | rfl | simp)) ?_
                        first | refine S.qui 151 rfl rfl (fun _ => .load sz3 ag3 (lk 0 rfl rfl) (by first | rfl | simp) rfl (by first | rfl | simp [V.offOf]) (by first | rfl | (simp; done) | (simp; omega)) (by first | rfl | simp)) ?_ | refine S.sil 151 rfl rfl (fun _ hF => .loadC sz3 ag3 (lk 0 rfl rfl) (by first | rfl | simp) (by first | rfl | simp)) ?_
                        first | refine S.sil 152 rfl rfl (fun _ hF => .nv (.fieldAddr lay23 rfl rfl (lk 11 rfl rfl)) (by (try simp only [List.set_cons_zero, List.set_cons_succ, List.cons_append, List.nil_append, List.append_nil, List.length_cons, List.length_nil, List.getD_cons_zero, List.getD_cons_succ, Nat.reduceAdd, Nat.reduceMul, Nat.zero_add, V.setAt_nil, V.setAt_st, V.setAt_arr, map_set']) <;> exact rfl)) ?_ | refine S.sil 152 rfl rfl (fun _ hF => .fieldAddrC lay23 rfl rfl (lk 11 rfl rfl) rfl (by first | rfl | simp)) ?_
                        first | refine S.qui 153 rfl rfl (fun _ => .load sz3 ag3 (lk 0 rfl rfl) (by first | rfl | simp) rfl (by first | rfl | simp [V.offOf]) (by first | rfl | (simp; done) | (simp; omega)) (by first | rfl | simp)) ?_ | refine S.sil 153 rfl rfl (fun _ hF => .loadC sz3 ag3 (lk 0 rfl rfl) (by first | rfl | simp) (by first | rfl | simp)) ?_
                        refine S.sil 154 rfl rfl (fun _ hF => .buildArrL arr34 zv34 (.cons (lk 2 rfl rfl) rfl (by first | rfl | simp) (by first | rfl | simp) (.cons (lk 0 rfl rfl) rfl (by first | rfl | simp) (by first | rfl | simp) .nil)) rfl rfl) ?_
                        first | refine S.qui 155 rfl rfl (fun _ => .load sz23 ag23 (lk 14 rfl rfl) (by first | rfl | simp) rfl (by first | rfl | simp [V.offOf]) (by first | rfl | (simp; done) | (simp; omega)) (by first | rfl | simp)) ?_ | refine S.sil 155 rfl rfl (fun _ hF => .loadC sz23 ag23 (lk 14 rfl rfl) (by first | rfl | simp) (by first | rfl | simp)) ?_
                        refine S.effN rfl rfl (.nf (.mapUpdate und35 key34 (lk 6 rfl rfl) (lk 1 rfl rfl) (lk 0 rfl rfl) (by first | rfl | simp) hkey hes hnd hput) (by (try simp only [List.set_cons_zero, List.set_cons_succ, List.cons_append, List.nil_append, List.append_nil, List.length_cons, List.length_nil, List.getD_cons_zero, List.getD_cons_succ, Nat.reduceAdd, Nat.reduceMul, Nat.zero_add, V.setAt_nil, V.setAt_st, V.setAt_arr, map_set']) <;> exact rfl) (by (try simp only [List.set_cons_zero, List.set_cons_succ, List.cons_append, List.nil_append, List.append_nil, List.length_cons, List.length_nil, List.getD_cons_zero, List.getD_cons_succ, Nat.reduceAdd, Nat.reduceMul, Nat.zero_add, V.setAt_nil, V.setAt_st, V.setAt_arr, map_set']) <;> exact rfl)) (by first | exact trivial | exact rfl | exact ⟨rfl, rfl⟩) ?_
                        refine S.nil ?_
                        refine blockQ_n ?_
                        refine thenQ_n ?_
                        refine AWp.prune (.eq (lk 11 rfl rfl) rfl (.eq (lk 12 rfl rfl) rfl (.eq (lk 13 rfl rfl) rfl (.eq (lk 14 rfl rfl) rfl (.eq (lk 16 rfl rfl) rfl (.eq (lk 17 rfl rfl) rfl (.eq (lk 18 rfl rfl) rfl .nil))))))) ?_
                        refine W.reg [0, 1] rfl ?_
                        refine S.sil 156 rfl rfl (fun _ hF => .add (lk 6 rfl rfl) cI) ?_
                        refine S.sil 50 rfl rfl (fun _ hF => .move (lk 0 rfl rfl)) ?_
                        refine S.nil ?_
                        refine thenQ_n ?_
                        refine ⟨⟨⟨i + 1, _, _, _⟩, by simp; omega, hO, by simp [hfirst]⟩, by simp; omega, ?_⟩
                        exact Wk.to 4 (by decide) rfl (.eq (lk 2 rfl rfl) rfl (.eq (lk 3 rfl rfl) rfl (.eq (lk 4 rfl rfl) rfl (.eq (lk 5 rfl rfl) rfl (.eq (lk 6 rfl rfl) rfl (.eq (lk 7 rfl rfl) rfl (.eq (lk 0 rfl rfl) (by rw [wrap_id (by omega) (by omega)]; rfl) .nil))))))) (by first | rfl | simp [envLt, V.lt]) (by first | rfl | simp [objsLt, AObj.lt, V.lt, -List.map_set])
                  · have hget := getM_none hfr
                    have hput := putM_new hfr
                    have hkey := key34_ok (hO.num x (by simp)).1 (hO.num x (by simp)).2
                    refine AWp.skip ?_
                    refine thenQ_n ?_
                    refine AWp.seq ?_
                    refine W.reg [0, 1, 2, 3, 4] rfl ?_
                    first | refine S.sil 116 rfl rfl (fun _ hF => .nv (.fieldAddr lay37 rfl rfl (lk 6 rfl rfl)) (by (try simp only [List.set_cons_zero, List.set_cons_succ, List.cons_append, List.nil_append, List.append_nil, List.length_cons, List.length_nil, List.getD_cons_zero, List.getD_cons_succ, Nat.reduceAdd, Nat.reduceMul, Nat.zero_add, V.setAt_nil, V.setAt_st, V.setAt_arr, map_set']) <;> exact rfl)) ?_ | refine S.sil 116 rfl rfl (fun _ hF => .fieldAddrC lay37 rfl rfl (lk 6 rfl rfl) rfl (by first | rfl | simp)) ?_
                    first | refine S.qui 117 rfl rfl (fun _ => .load sz3 ag3 (lk 0 rfl rfl) (by first | rfl | simp) rfl (by first | rfl | simp [V.offOf]) (by first | rfl | (simp; done) | (simp; omega)) (by first | rfl | simp)) ?_ | refine S.sil 117 rfl rfl (fun _ hF => .loadC sz3 ag3 (lk 0 rfl rfl) (by first | rfl | simp) (by first | rfl | simp)) ?_
                    first | refine S.qui 118 rfl rfl (fun _ => .load sz23 ag23 (lk 9 rfl rfl) (by first | rfl | simp) rfl (by first | rfl | simp [V.offOf]) (by first | rfl | (simp; done) | (simp; omega)) (by first | rfl | simp)) ?_ | refine S.sil 118 rfl rfl (fun _ hF => .loadC sz23 ag23 (lk 9 rfl rfl) (by first | rfl | simp) (by first | rfl | simp)) ?_
                    first | refine S.sil 119 rfl rfl (fun _ hF => .nv (.indexAddr arr33 (lk 6 rfl rfl) (lk 1 rfl rfl) (isR_iff.1 hI).1 (isR_iff.1 hI).2) (by (try simp only [List.set_cons_zero, List.set_cons_succ, List.cons_append, List.nil_append, List.append_nil, List.length_cons, List.length_nil, List.getD_cons_zero, List.getD_cons_succ, Nat.reduceAdd, Nat.reduceMul, Nat.zero_add, V.setAt_nil, V.setAt_st, V.setAt_arr, map_set']) <;> exact rfl)) ?_ | refine S.sil 119 rfl rfl (fun _ hF => .indexAddrC arr33 (lk 6 rfl rfl) (lk 1 rfl rfl) (isR_iff.1 hI).1 (isR_iff.1 hI).2 rfl) ?_
                    refine S.effN rfl rfl (.nf (.store sz23 (lk 0 rfl rfl) (lk 1 rfl rfl) rfl (by first | rfl | simp) (at_map encLock lock0 (by omega)) (by first | rfl | simp [V.offOf]) (by first | rfl | simp) (by first | rfl | simp)) (by (try simp only [List.set_cons_zero, List.set_cons_succ, List.cons_append, List.nil_append, List.append_nil, List.length_cons, List.length_nil, List.getD_cons_zero, List.getD_cons_succ, Nat.reduceAdd, Nat.reduceMul, Nat.zero_add, V.setAt_nil, V.setAt_st, V.setAt_arr, map_set']) <;> exact rfl) (by (try simp only [List.set_cons_zero, List.set_cons_succ, List.cons_append, List.nil_append, List.append_nil, List.length_cons, List.length_nil, List.getD_cons_zero, List.getD_cons_succ, Nat.reduceAdd, Nat.reduceMul, Nat.zero_add, V.setAt_nil, V.setAt_st, V.setAt_arr, map_set']) <;> exact rfl)) (by first | exact trivial | exact rfl | exact ⟨rfl, rfl⟩) ?_
                    refine S.nil ?_
                    refine thenQ_n ?_
                    refine AWp.seq ?_
                    refine W.reg [0, 1, 2, 3, 4, 5, 6, 7, 8, 9, 10, 11, 12] rfl ?_
                    refine S.sil 121 rfl rfl (fun _ hF => .move (lk 8 rfl rfl)) ?_
                    first | refine S.sil 122 rfl rfl (fun _ hF => .nv (.fieldAddr lay23 rfl rfl (lk 12 rfl rfl)) (by (try simp only [List.set_cons_zero, List.set_cons_succ, List.cons_append, List.nil_append, List.append_nil, List.length_cons, List.length_nil, List.getD_cons_zero, List.getD_cons_succ, Nat.reduceAdd, Nat.reduceMul, Nat.zero_add, V.setAt_nil, V.setAt_st, V.setAt_arr, map_set']) <;> exact rfl)) ?_ | refine S.sil 122 rfl rfl (fun _ hF => .fieldAddrC lay23 rfl rfl (lk 12 rfl rfl) rfl (by first | rfl | simp)) ?_
                    first | refine S.qui 123 rfl rfl (fun _ => .load sz3 ag3 (lk 0 rfl rfl) (by first | rfl | simp) rfl (by first | rfl | simp [V.offOf]) (by first | rfl | (simp; done) | (simp; omega)) (by first | rfl | simp)) ?_ | refine S.sil 123 rfl rfl (fun _ hF => .loadC sz3 ag3 (lk 0 rfl rfl) (by first | rfl | simp) (by first | rfl | simp)) ?_
                    first | refine S.sil 124 rfl rfl (fun _ hF => .nv (.fieldAddr lay23 rfl rfl (lk 14 rfl rfl)) (by (try simp only [List.set_cons_zero, List.set_cons_succ, List.cons_append, List.nil_append, List.append_nil, List.length_cons, List.length_nil, List.getD_cons_zero, List.getD_cons_succ, Nat.reduceAdd, Nat.reduceMul, Nat.zero_add, V.setAt_nil, V.setAt_st, V.setAt_arr, map_set']) <;> exact rfl)) ?_ | refine S.sil 124 rfl rfl (fun _ hF => .fieldAddrC lay23 rfl rfl (lk 14 rfl rfl) rfl (by first | rfl | simp)) ?_
                    first | refine S.qui 125 rfl rfl (fun _ => .load sz3 ag3 (lk 0 rfl rfl) (by first | rfl | simp) rfl (by first | rfl | simp [V.offOf]) (by first | rfl | (simp; done) | (simp; omega)) (by first | rfl | simp)) ?_ | refine S.sil 125 rfl rfl (fun _ hF => .loadC sz3 ag3 (lk 0 rfl rfl) (by first | rfl | simp) (by first | rfl | simp)) ?_
                    refine S.sil 126 rfl rfl (fun _ hF => .buildArrL arr34 zv34 (.cons (lk 2 rfl rfl) rfl (by first | rfl | simp) (by first | rfl | simp) (.cons (lk 0 rfl rfl) rfl (by first | rfl | simp) (by first | rfl | simp) .nil)) rfl rfl) ?_
                    refine S.qui 127 rfl rfl (fun _ => .lookup und35 key34 zv23 (lk 5 rfl rfl) (lk 0 rfl rfl) (by first | rfl | simp) hkey hes hnd hget (by first | rfl | simp)) ?_
                    refine S.sil 120 rfl rfl (fun _ hF => .move (lk 0 rfl rfl)) ?_
                    refine S.sil 128 rfl rfl (fun _ hF => .extract (lk 0 rfl rfl) rfl) ?_
                    refine S.sil 129 rfl rfl (fun _ hF => .extract (lk 1 rfl rfl) rfl) ?_
                    refine S.new 17 rfl rfl (.nf (.alloc zv23) (by (try simp only [List.set_cons_zero, List.set_cons_succ, List.cons_append, List.nil_append, List.append_nil, List.length_cons, List.length_nil, List.getD_cons_zero, List.getD_cons_succ, Nat.reduceAdd, Nat.reduceMul, Nat.zero_add, V.setAt_nil, V.setAt_st, V.setAt_arr, map_set']) <;> exact rfl) (by (try simp only [List.set_cons_zero, List.set_cons_succ, List.cons_append, List.nil_append, List.append_nil, List.length_cons, List.length_nil, List.getD_cons_zero, List.getD_cons_succ, Nat.reduceAdd, Nat.reduceMul, Nat.zero_add, V.setAt_nil, V.setAt_st, V.setAt_arr, map_set']) <;> exact rfl)) (by first | exact trivial | exact rfl | exact ⟨rfl, rfl⟩) ?_
                    refine S.effN rfl rfl (.nf (.store sz23 (lk 0 rfl rfl) (lk 2 rfl rfl) rfl (by first | rfl | simp) rfl (by first | rfl | simp [V.offOf]) (by first | rfl | simp) (by first | rfl | simp)) (by (try simp only [List.set_cons_zero, List.set_cons_succ, List.cons_append, List.nil_append, List.append_nil, List.length_cons, List.length_nil, List.getD_cons_zero, List.getD_cons_succ, Nat.reduceAdd, Nat.reduceMul, Nat.zero_add, V.setAt_nil, V.setAt_st, V.setAt_arr, map_set']) <;> exact rfl) (by (try simp only [List.set_cons_zero, List.set_cons_succ, List.cons_append, List.nil_append, List.append_nil, List.length_cons, List.length_nil, List.getD_cons_zero, List.getD_cons_succ, Nat.reduceAdd, Nat.reduceMul, Nat.zero_add, V.setAt_nil, V.setAt_st, V.setAt_arr, map_set']) <;> exact rfl)) (by first | exact trivial | exact rfl | exact ⟨rfl, rfl⟩) ?_
                    refine S.sil 18 rfl rfl (fun _ hF => .assign (lk 1 rfl rfl)) ?_
                    refine S.nil ?_
                    refine thenQ_n ?_
                    refine AWp.prune (.eq (lk 0 rfl rfl) rfl (.eq (lk 1 rfl rfl) rfl (.eq (lk 18 rfl rfl) rfl (.eq (lk 19 rfl rfl) rfl (.eq (lk 20 rfl rfl) rfl (.eq (lk 21 rfl rfl) rfl (.eq (lk 23 rfl rfl) rfl (.eq (lk 25 rfl rfl) rfl (.eq (lk 26 rfl rfl) rfl (.eq (lk 27 rfl rfl) rfl .nil)))))))))) ?_
                    refine AWp.seq ?_
                    refine AWp.seq ?_
                    refine W.reg [0, 1, 2, 3, 4, 5, 6, 7, 8, 9, 10, 11, 12, 13, 14, 15] rfl ?_
                    refine S.sil 130 rfl rfl (fun _ hF => .move (lk 0 rfl rfl)) ?_
                    refine S.sil 131 rfl rfl (fun _ hF => .move (lk 0 rfl rfl)) ?_
                    first | refine S.gqui 132 1 131 true rfl rfl rfl (lk 0 rfl rfl) (fun hB _ => .load sz23 ag23 (lk 3 rfl rfl) (by first | rfl | simp) rfl (by first | rfl | simp [V.offOf]) (by first | rfl | (simp; done) | (simp; omega)) (by first | rfl | simp)) ?_ | refine S.gsil 132 1 131 true rfl rfl rfl (lk 0 rfl rfl) (fun hB _ hF => .loadC sz23 ag23 (lk 3 rfl rfl) (by first | rfl | simp) (by first | rfl | simp)) ?_
                    first | refine S.gqui 133 1 131 true rfl rfl rfl (lk 1 rfl rfl) (fun hB _ => .load sz23 ag23 (lk 9 rfl rfl) (by first | rfl | simp) rfl (by first | rfl | simp [V.offOf]) (by first | rfl | (simp; done) | (simp; omega)) (by first | rfl | simp)) ?_ | refine S.gsil 133 1 131 true rfl rfl rfl (lk 1 rfl rfl) (fun hB _ hF => .loadC sz23 ag23 (lk 9 rfl rfl) (by first | rfl | simp) (by first | rfl | simp)) ?_
                    refine S.gsil 134 1 131 true rfl rfl rfl (lk 2 rfl rfl) (fun hB _ hF => .neqV eqt23 (ifT hB (lk 1 rfl rfl)) (ifT hB (lk 0 rfl rfl)) (by first | rfl | simp) (by first | rfl | simp) rfl rfl) ?_
                    refine S.sil 135 rfl rfl (fun _ hF => .pickAnd (lk 3 rfl rfl) (fun h => ifT h (lk 0 rfl rfl)) cB) ?_
                    refine S.sil 136 rfl rfl (fun _ hF => .move (lk 0 rfl rfl)) ?_
                    refine S.gsil 137 6 136 false rfl rfl rfl (lk 0 rfl rfl) (fun hB _ hF => .move (lk 7 rfl rfl)) ?_
                    refine S.gsil 138 6 136 false rfl rfl rfl (lk 1 rfl rfl) (fun hB _ hF => .not (ifT hB (lk 0 rfl rfl))) ?_
                    refine S.gsil 139 6 136 false rfl rfl rfl (lk 2 rfl rfl) (fun hB _ hF => .move (ifT hB (lk 0 rfl rfl))) ?_
                    first | refine S.gqui2 140 9 139 true rfl rfl rfl (lk 0 rfl rfl) (fun hB _ => .load sz23 ag23 (lk 16 rfl rfl) (by first | rfl | simp) rfl (by first | rfl | simp [V.offOf]) (by first | rfl | (simp; done) | (simp; omega)) (by first | rfl | simp)) ?_ | refine S.gsil2 140 9 139 true rfl rfl rfl (lk 0 rfl rfl) (fun hB _ hF => .loadC sz23 ag23 (lk 16 rfl rfl) (by first | rfl | simp) (by first | rfl | simp)) ?_
                    first | refine S.gqui2 141 9 139 true rfl rfl rfl (lk 1 rfl rfl) (fun hB _ => .load sz23 ag23 (lk 16 rfl rfl) (by first | rfl | simp) rfl (by first | rfl | simp [V.offOf]) (by first | rfl | (simp; done) | (simp; omega)) (by first | rfl | simp)) ?_ | refine S.gsil2 141 9 139 true rfl rfl rfl (lk 1 rfl rfl) (fun hB _ hF => .loadC sz23 ag23 (lk 16 rfl rfl) (by first | rfl | simp) (by first | rfl | simp)) ?_
                    refine S.gsil2 142 9 139 true rfl rfl rfl (lk 2 rfl rfl) (fun hB _ hF => .callQ ent9 cF (.c (ifT hB (lk 1 rfl rfl)) (by first | exact V.sub.refl _ | exact V.sub.forget _ _ _ | exact V.sub.nils_no _ | exact V.sub.nils _) (.c (ifT hB (lk 0 rfl rfl)) (by first | exact V.sub.refl _ | exact V.sub.forget _ _ _ | exact V.sub.nils_no _ | exact V.sub.nils _) .nil)) (Compare_ok _ _)) ?_
                    refine S.gsil2 143 9 139 true rfl rfl rfl (lk 3 rfl rfl) (fun hB _ hF => .leq (ifT hB (lk 0 rfl rfl)) cI) ?_
                    refine S.gsil 144 6 136 false rfl rfl rfl (lk 7 rfl rfl) (fun hB _ hF => .pickAnd (ifT hB (lk 4 rfl rfl)) (fun h => ifT ⟨hB, h⟩ (lk 0 rfl rfl)) cB) ?_
                    refine S.sil 145 rfl rfl (fun _ hF => .pickOr (lk 8 rfl rfl) cB (fun h => ifT h (lk 0 rfl rfl))) ?_
                    refine S.nil ?_
                    refine thenQ_n ?_
                    refine AWp.prune (.eq (lk 0 rfl rfl) rfl (.eq (lk 16 rfl rfl) rfl (.eq (lk 18 rfl rfl) rfl (.eq (lk 19 rfl rfl) rfl (.eq (lk 20 rfl rfl) rfl (.eq (lk 21 rfl rfl) rfl (.eq (lk 22 rfl rfl) rfl (.eq (lk 23 rfl rfl) rfl (.eq (lk 24 rfl rfl) rfl (.eq (lk 25 rfl rfl) rfl .nil)))))))))) ?_
                    refine AWp.cond (lk 0 rfl rfl) (fun c12 => ?_) (fun c12 => ?_)
                    · try simp only [decide_eq_true_eq, decide_eq_false_iff_not, Bool.not_eq_true', Bool.not_eq_false', Bool.and_eq_true, Bool.or_eq_true, Bool.and_eq_false_iff, Bool.or_eq_false_iff, Bool.not_eq_true, Bool.not_eq_false, ite_eq_left_iff] at c12
                      exfalso
                      rcases c12 with ⟨c, _⟩ | ⟨_, c⟩
                      · cases c
                      · exact cmp_le.1 c hg
                    · try simp only [decide_eq_true_eq, decide_eq_false_iff_not, Bool.not_eq_true', Bool.not_eq_false', Bool.and_eq_true, Bool.or_eq_true, Bool.and_eq_false_iff, Bool.or_eq_false_iff, Bool.not_eq_true, Bool.not_eq_false, ite_eq_left_iff] at c12
                      refine AWp.skip ?_
                      refine thenQ_n ?_
                      refine AWp.seq ?_
                      refine AWp.seq ?_
                      refine W.reg [0, 1] rfl ?_
                      refine S.sil 146 rfl rfl (fun _ hF => .move (lk 1 rfl rfl)) ?_
                      refine S.sil 147 rfl rfl (fun _ hF => .not (lk 0 rfl rfl)) ?_
                      refine S.nil ?_
                      refine thenQ_n ?_
                      refine AWp.cond (lk 0 rfl rfl) (fun c13 => ?_) (fun c13 => ?_)
                      · try simp only [decide_eq_true_eq, decide_eq_false_iff_not, Bool.not_eq_true', Bool.not_eq_false', Bool.and_eq_true, Bool.or_eq_true, Bool.and_eq_false_iff, Bool.or_eq_false_iff, Bool.not_eq_true, Bool.not_eq_false, ite_eq_left_iff] at c13
                        refine W.reg [0, 1] rfl ?_
                        first | refine S.qui 148 rfl rfl (fun _ => .load sz23 ag23 (lk 8 rfl rfl) (by first | rfl | simp) rfl (by first | rfl | simp [V.offOf]) (by first | rfl | (simp; done) | (simp; omega)) (by first | rfl | simp)) ?_ | refine S.sil 148 rfl rfl (fun _ hF => .loadC sz23 ag23 (lk 8 rfl rfl) (by first | rfl | simp) (by first | rfl | simp)) ?_
                        refine S.effN rfl rfl (.nf (.store sz23 (lk 8 rfl rfl) (lk 0 rfl rfl) rfl (by first | rfl | simp) rfl (by first | rfl | simp [V.offOf]) (by first | rfl | simp) (by first | rfl | simp)) (by (try simp only [List.set_cons_zero, List.set_cons_succ, List.cons_append, List.nil_append, List.append_nil, List.length_cons, List.length_nil, List.getD_cons_zero, List.getD_cons_succ, Nat.reduceAdd, Nat.reduceMul, Nat.zero_add, V.setAt_nil, V.setAt_st, V.setAt_arr, map_set']) <;> exact rfl) (by (try simp only [List.set_cons_zero, List.set_cons_succ, List.cons_append, List.nil_append, List.append_nil, List.length_cons, List.length_nil, List.getD_cons_zero, List.getD_cons_succ, Nat.reduceAdd, Nat.reduceMul, Nat.zero_add, V.setAt_nil, V.setAt_st, V.setAt_arr, map_set']) <;> exact rfl)) (by first | exact trivial | exact rfl | exact ⟨rfl, rfl⟩) ?_
                        refine S.nil ?_
                        refine thenQ_n ?_
                        refine W.reg [0, 1, 2, 3, 4, 5, 6, 7] rfl ?_
                        refine S.sil 149 rfl rfl (fun _ hF => .move (lk 7 rfl rfl)) ?_
                        first | refine S.sil 150 rfl rfl (fun _ hF => .nv (.fieldAddr lay23 rfl rfl (lk 10 rfl rfl)) (by (try simp only [List.set_cons_zero, List.set_cons_succ, List.cons_append, List.nil_append, List.append_nil, List.length_cons, List.length_nil, List.getD_cons_zero, List.getD_cons_succ, Nat.reduceAdd, Nat.reduceMul, Nat.zero_add, V.setAt_nil, V.setAt_st, V.setAt_arr, map_set']) <;> exact rfl)) ?_ | refine S.sil 150 rfl rfl (fun _ hF => .fieldAddrC lay23 rfl rfl (lk 10 rfl rfl) rfl (by first | rfl | simp)) ?_
                        first | refine S.qui 151 rfl rfl (fun _ => .load sz3 ag3 (lk 0 rfl rfl) (by first | rfl | simp) rfl (by first | rfl | simp [V.offOf]) (by first | rfl | (simp; done) | (simp; omega)) (by first | rfl | simp)) ?_ | refine S.sil 151 rfl rfl (fun _ hF => .loadC sz3 ag3 (lk 0 rfl rfl) (by first | rfl | simp) (by first | rfl | simp)) ?_
                        first | refine S.sil 152 rfl rfl (fun _ hF => .nv (.fieldAddr lay23 rfl rfl (lk 12 rfl rfl)) (by (try simp only [List.set_cons_zero, List.set_cons_succ, List.cons_append, List.nil_append, List.append_nil, List.length_cons, List.length_nil, List.getD_cons_zero, List.getD_cons_succ, Nat.reduceAdd, Nat.reduceMul, Nat.zero_add, V.setAt_nil, V.setAt_st, V.setAt_arr, map_set']) <;> exact rfl)) ?_ | refine S.sil 152 rfl rfl (fun _ hF => .fieldAddrC lay23 rfl rfl (lk 12 rfl rfl) rfl (by first | rfl | simp)) ?_
                        first | refine S.qui 153 rfl rfl (fun _ => .load sz3 ag3 (lk 0 rfl rfl) (by first | rfl | simp) rfl (by first | rfl | simp [V.offOf]) (by first | rfl | (simp; done) | (simp; omega)) (by first | rfl | simp)) ?_ | refine S.sil 153 rfl rfl (fun _ hF => .loadC sz3 ag3 (lk 0 rfl rfl) (by first | rfl | simp) (by first | rfl | simp)) ?_
                        refine S.sil 154 rfl rfl (fun _ hF => .buildArrL arr34 zv34 (.cons (lk 2 rfl rfl) rfl (by first | rfl | simp) (by first | rfl | simp) (.cons (lk 0 rfl rfl) rfl (by first | rfl | simp) (by first | rfl | simp) .nil)) rfl rfl) ?_
                        first | refine S.qui 155 rfl rfl (fun _ => .load sz23 ag23 (lk 15 rfl rfl) (by first | rfl | simp) rfl (by first | rfl | simp [V.offOf]) (by first | rfl | (simp; done) | (simp; omega)) (by first | rfl | simp)) ?_ | refine S.sil 155 rfl rfl (fun _ hF => .loadC sz23 ag23 (lk 15 rfl rfl) (by first | rfl | simp) (by first | rfl | simp)) ?_
                        refine S.effN rfl rfl (.nf (.mapUpdate und35 key34 (lk 6 rfl rfl) (lk 1 rfl rfl) (lk 0 rfl rfl) (by first | rfl | simp) hkey hes hnd hput) (by (try simp only [List.set_cons_zero, List.set_cons_succ, List.cons_append, List.nil_append, List.append_nil, List.length_cons, List.length_nil, List.getD_cons_zero, List.getD_cons_succ, Nat.reduceAdd, Nat.reduceMul, Nat.zero_add, V.setAt_nil, V.setAt_st, V.setAt_arr, map_set']) <;> exact rfl) (by (try simp only [List.set_cons_zero, List.set_cons_succ, List.cons_append, List.nil_append, List.append_nil, List.length_cons, List.length_nil, List.getD_cons_zero, List.getD_cons_succ, Nat.reduceAdd, Nat.reduceMul, Nat.zero_add, V.setAt_nil, V.setAt_st, V.setAt_arr, map_set']) <;> exact rfl)) (by first | exact trivial | exact rfl | exact ⟨rfl, rfl⟩) ?_
                        refine S.nil ?_
                        refine blockQ_n ?_
                        refine thenQ_n ?_
                        refine AWp.prune (.eq (lk 12 rfl rfl) rfl (.eq (lk 13 rfl rfl) rfl (.eq (lk 14 rfl rfl) rfl (.eq (lk 15 rfl rfl) rfl (.eq (lk 17 rfl rfl) rfl (.eq (lk 18 rfl rfl) rfl (.eq (lk 19 rfl rfl) rfl .nil))))))) ?_
                        refine W.reg [0, 1] rfl ?_
                        refine S.sil 156 rfl rfl (fun _ hF => .add (lk 6 rfl rfl) cI) ?_
                        refine S.sil 50 rfl rfl (fun _ hF => .move (lk 0 rfl rfl)) ?_
                        refine S.nil ?_
                        refine thenQ_n ?_
                        refine ⟨⟨⟨i + 1, _, _, _⟩, by simp; omega, hO, by simp [hfirst]⟩, by simp; omega, ?_⟩
                        exact Wk.to 4 (by decide) rfl (.eq (lk 2 rfl rfl) rfl (.eq (lk 3 rfl rfl) rfl (.eq (lk 4 rfl rfl) rfl (.eq (lk 5 rfl rfl) rfl (.eq (lk 6 rfl rfl) rfl (.eq (lk 7 rfl rfl) rfl (.eq (lk 0 rfl rfl) (by rw [wrap_id (by omega) (by omega)]; rfl) .nil))))))) (by first | rfl | simp [envLt, V.lt]) (by first | rfl | simp [objsLt, AObj.lt, V.lt, -List.map_set])
                      · try simp only [decide_eq_true_eq, decide_eq_false_iff_not, Bool.not_eq_true', Bool.not_eq_false', Bool.and_eq_true, Bool.or_eq_true, Bool.and_eq_false_iff, Bool.or_eq_false_iff, Bool.not_eq_true, Bool.not_eq_false, ite_eq_left_iff] at c13
                        cases c13
          · try simp only [decide_eq_true_eq, decide_eq_false_iff_not, Bool.not_eq_true', Bool.not_eq_false', Bool.and_eq_true, Bool.or_eq_true, Bool.and_eq_false_iff, Bool.or_eq_false_iff, Bool.not_eq_true, Bool.not_eq_false, ite_eq_left_iff] at c2
            refine AWp.exit ?_
            refine thenQ_x ?_
            refine thenQ_x ?_
            refine blockQ_x ?_
            refine thenQ_n ?_
            refine AWp.seq ?_
            refine W.reg [0, 1, 2] rfl ?_
            first | refine S.qui 157 rfl rfl (fun _ => .load sz23 ag23 (lk 1 rfl rfl) (by first | rfl | simp) rfl (by first | rfl | simp [V.offOf]) (by first | rfl | (simp; done) | (simp; omega)) (by first | rfl | simp)) ?_ | refine S.sil 157 rfl rfl (fun _ hF => .loadC sz23 ag23 (lk 1 rfl rfl) (by first | rfl | simp) (by first | rfl | simp)) ?_
            refine S.new 19 rfl rfl (.nf (.alloc zv23) (by (try simp only [List.set_cons_zero, List.set_cons_succ, List.cons_append, List.nil_append, List.append_nil, List.length_cons, List.length_nil, List.getD_cons_zero, List.getD_cons_succ, Nat.reduceAdd, Nat.reduceMul, Nat.zero_add, V.setAt_nil, V.setAt_st, V.setAt_arr, map_set']) <;> exact rfl) (by (try simp only [List.set_cons_zero, List.set_cons_succ, List.cons_append, List.nil_append, List.append_nil, List.length_cons, List.length_nil, List.getD_cons_zero, List.getD_cons_succ, Nat.reduceAdd, Nat.reduceMul, Nat.zero_add, V.setAt_nil, V.setAt_st, V.setAt_arr, map_set']) <;> exact rfl)) (by first | exact trivial | exact rfl | exact ⟨rfl, rfl⟩) ?_
            refine S.effN rfl rfl (.nf (.store sz23 (lk 0 rfl rfl) (lk 1 rfl rfl) rfl (by first | rfl | simp) rfl (by first | rfl | simp [V.offOf]) (by first | rfl | simp) (by first | rfl | simp)) (by (try simp only [List.set_cons_zero, List.set_cons_succ, List.cons_append, List.nil_append, List.append_nil, List.length_cons, List.length_nil, List.getD_cons_zero, List.getD_cons_succ, Nat.reduceAdd, Nat.reduceMul, Nat.zero_add, V.setAt_nil, V.setAt_st, V.setAt_arr, map_set']) <;> exact rfl) (by (try simp only [List.set_cons_zero, List.set_cons_succ, List.cons_append, List.nil_append, List.append_nil, List.length_cons, List.length_nil, List.getD_cons_zero, List.getD_cons_succ, Nat.reduceAdd, Nat.reduceMul, Nat.zero_add, V.setAt_nil, V.setAt_st, V.setAt_arr, map_set']) <;> exact rfl)) (by first | exact trivial | exact rfl | exact ⟨rfl, rfl⟩) ?_
            refine S.nil ?_
            refine thenQ_n ?_
            refine AWp.seq ?_
            refine AWp.seq ?_
            refine W.reg [0, 1] rfl ?_
            first | refine S.qui 158 rfl rfl (fun _ => .load sz33 ag33 (lk 4 rfl rfl) (by first | rfl | simp) rfl (by first | rfl | simp [V.offOf]) (by first | rfl | (simp; done) | (simp; omega)) (by first | rfl | simp)) ?_ | refine S.sil 158 rfl rfl (fun _ hF => .loadC sz33 ag33 (lk 4 rfl rfl) (by first | rfl | simp) (by first | rfl | simp)) ?_
            refine S.sil 159 rfl rfl (fun _ hF => .move cI) ?_
            refine S.nil ?_
            refine thenQ_n ?_
            refine AWp.block ?_
            refine AWp.loopS (ι := {q : Nat // q ≤ 16}) (fun ⟨q, _⟩ => ⟨[(12, .ptr 3 [] 0), (19, .ptr 4 [] 0), (158, .arr 4 (s.map encLock)), (159, .int .i64 (q : Int))], [.cells (encLock (newLock h v).1), .cells (.arr 4 (List.map encLock s)), .map (encSeen seen), .cells (encLock last), .cells (encLock (joinAll (newLock h v).1 (s.take q)))]⟩) (fun ⟨q, _⟩ => 16 - q) ⟨0, by omega⟩ ?_ ?_
            · exact Wk.to 5 (by decide) rfl (.eq (lk 8 rfl rfl) rfl (.eq (lk 2 rfl rfl) rfl (.eq (lk 1 rfl rfl) rfl (.eq (lk 0 rfl rfl) rfl .nil)))) (by first | rfl | simp [envLt, V.lt]) (by first | rfl | simp [objsLt, AObj.lt, V.lt, -List.map_set])
            · rintro ⟨q, hq⟩
              refine AWp.seq ?_
              refine W.reg [0] rfl ?_
              refine S.sil 160 rfl rfl (fun _ hF => .lss (lk 3 rfl rfl) cI) ?_
              refine S.nil ?_
              refine thenQ_n ?_
              refine AWp.seq ?_
              refine AWp.cond (lk 0 rfl rfl) (fun c14 => ?_) (fun c14 => ?_)
              · try simp only [decide_eq_true_eq, decide_eq_false_iff_not, Bool.not_eq_true', Bool.not_eq_false', Bool.and_eq_true, Bool.or_eq_true, Bool.and_eq_false_iff, Bool.or_eq_false_iff, Bool.not_eq_true, Bool.not_eq_false, ite_eq_left_iff] at c14
                have hu3 : (s.map encLock)[((q : Nat) : Int).toNat]? = some (encLock (s.getD q lock0)) := map_get encLock lock0 (by omega)
                refine AWp.skip ?_
                refine thenQ_n ?_
                refine AWp.seq ?_
                refine AWp.block ?_
                refine AWp.seq ?_
                refine W.reg [0, 1, 2] rfl ?_
                refine S.sil 161 rfl rfl (fun _ hF => .index arr33 (lk 3 rfl rfl) (lk 4 rfl rfl) (by omega) (by simp; omega) hu3 (by first | rfl | simp)) ?_
                refine S.new 21 rfl rfl (.nf (.alloc zv23) (by (try simp only [List.set_cons_zero, List.set_cons_succ, List.cons_append, List.nil_append, List.append_nil, List.length_cons, List.length_nil, List.getD_cons_zero, List.getD_cons_succ, Nat.reduceAdd, Nat.reduceMul, Nat.zero_add, V.setAt_nil, V.setAt_st, V.setAt_arr, map_set']) <;> exact rfl) (by (try simp only [List.set_cons_zero, List.set_cons_succ, List.cons_append, List.nil_append, List.append_nil, List.length_cons, List.length_nil, List.getD_cons_zero, List.getD_cons_succ, Nat.reduceAdd, Nat.reduceMul, Nat.zero_add, V.setAt_nil, V.setAt_st, V.setAt_arr, map_set']) <;> exact rfl)) (by first | exact trivial | exact rfl | exact ⟨rfl, rfl⟩) ?_
                refine S.effN rfl rfl (.nf (.store sz23 (lk 0 rfl rfl) (lk 1 rfl rfl) rfl (by first | rfl | simp) rfl (by first | rfl | simp [V.offOf]) (by first | rfl | simp) (by first | rfl | simp)) (by (try simp only [List.set_cons_zero, List.set_cons_succ, List.cons_append, List.nil_append, List.append_nil, List.length_cons, List.length_nil, List.getD_cons_zero, List.getD_cons_succ, Nat.reduceAdd, Nat.reduceMul, Nat.zero_add, V.setAt_nil, V.setAt_st, V.setAt_arr, map_set']) <;> exact rfl) (by (try simp only [List.set_cons_zero, List.set_cons_succ, List.cons_append, List.nil_append, List.append_nil, List.length_cons, List.length_nil, List.getD_cons_zero, List.getD_cons_succ, Nat.reduceAdd, Nat.reduceMul, Nat.zero_add, V.setAt_nil, V.setAt_st, V.setAt_arr, map_set']) <;> exact rfl)) (by first | exact trivial | exact rfl | exact ⟨rfl, rfl⟩) ?_
                refine S.nil ?_
                refine thenQ_n ?_
                refine W.reg [0, 1, 2, 3] rfl ?_
                first | refine S.qui 162 rfl rfl (fun _ => .load sz23 ag23 (lk 4 rfl rfl) (by first | rfl | simp) rfl (by first | rfl | simp [V.offOf]) (by first | rfl | (simp; done) | (simp; omega)) (by first | rfl | simp)) ?_ | refine S.sil 162 rfl rfl (fun _ hF => .loadC sz23 ag23 (lk 4 rfl rfl) (by first | rfl | simp) (by first | rfl | simp)) ?_
                first | refine S.qui 163 rfl rfl (fun _ => .load sz23 ag23 (lk 1 rfl rfl) (by first | rfl | simp) rfl (by first | rfl | simp [V.offOf]) (by first | rfl | (simp; done) | (simp; omega)) (by first | rfl | simp)) ?_ | refine S.sil 163 rfl rfl (fun _ hF => .loadC sz23 ag23 (lk 1 rfl rfl) (by first | rfl | simp) (by first | rfl | simp)) ?_
                refine S.sil 164 rfl rfl (fun _ hF => .callQ ent11 cF (.c (lk 1 rfl rfl) (by first | exact V.sub.refl _ | exact V.sub.forget _ _ _ | exact V.sub.nils_no _ | exact V.sub.nils _) (.c (lk 0 rfl rfl) (by first | exact V.sub.refl _ | exact V.sub.forget _ _ _ | exact V.sub.nils_no _ | exact V.sub.nils _) .nil)) (Join_ok _ _)) ?_
                refine S.effN rfl rfl (.nf (.store sz23 (lk 7 rfl rfl) (lk 0 rfl rfl) rfl (by first | rfl | simp) rfl (by first | rfl | simp [V.offOf]) (by first | rfl | simp) (by first | rfl | simp)) (by (try simp only [List.set_cons_zero, List.set_cons_succ, List.cons_append, List.nil_append, List.append_nil, List.length_cons, List.length_nil, List.getD_cons_zero, List.getD_cons_succ, Nat.reduceAdd, Nat.reduceMul, Nat.zero_add, V.setAt_nil, V.setAt_st, V.setAt_arr, map_set']) <;> exact rfl) (by (try simp only [List.set_cons_zero, List.set_cons_succ, List.cons_append, List.nil_append, List.append_nil, List.length_cons, List.length_nil, List.getD_cons_zero, List.getD_cons_succ, Nat.reduceAdd, Nat.reduceMul, Nat.zero_add, V.setAt_nil, V.setAt_st, V.setAt_arr, map_set']) <;> exact rfl)) (by first | exact trivial | exact rfl | exact ⟨rfl, rfl⟩) ?_
                refine S.nil ?_
                refine blockQ_n ?_
                refine thenQ_n ?_
                refine W.reg [0, 1] rfl ?_
                refine S.sil 165 rfl rfl (fun _ hF => .add (lk 9 rfl rfl) cI) ?_
                refine S.sil 159 rfl rfl (fun _ hF => .move (lk 0 rfl rfl)) ?_
                refine S.nil ?_
                refine thenQ_n ?_
                refine ⟨⟨q + 1, by omega⟩, by simp; omega, ?_⟩
                exact Wk.to 5 (by decide) (congrArg (fun z => [AObj.cells (encLock (newLock h v).1), .cells (.arr 4 (s.map encLock)), .map (encSeen seen), .cells (encLock last), .cells (encLock z)]) (joinAll_take (by omega)).symm) (.eq (lk 8 rfl rfl) rfl (.eq (lk 9 rfl rfl) rfl (.eq (lk 10 rfl rfl) rfl (.eq (lk 0 rfl rfl) (by rw [wrap_id (by omega) (by omega)]; rfl) .nil)))) (by first | rfl | simp [envLt, V.lt]) (by first | rfl | simp [objsLt, AObj.lt, V.lt, -List.map_set])
              · try simp only [decide_eq_true_eq, decide_eq_false_iff_not, Bool.not_eq_true', Bool.not_eq_false', Bool.and_eq_true, Bool.or_eq_true, Bool.and_eq_false_iff, Bool.or_eq_false_iff, Bool.not_eq_true, Bool.not_eq_false, ite_eq_left_iff] at c14
                have hall : joinAll (newLock h v).1 (s.take q) = last := by
                  rw [List.take_of_length_le (by omega)]
                  exact inv.all (inv.le _ hfirst)
                refine AWp.exit ?_
                refine thenQ_x ?_
                refine thenQ_x ?_
                refine blockQ_x ?_
                refine thenQ_n ?_
                refine AWp.seq ?_
                refine W.reg [0, 1, 2, 3, 4, 5, 6] rfl ?_
                first | refine S.qui 166 rfl rfl (fun _ => .load sz23 ag23 (lk 2 rfl rfl) (by first | rfl | simp) rfl (by first | rfl | simp [V.offOf]) (by first | rfl | (simp; done) | (simp; omega)) (by first | rfl | simp)) ?_ | refine S.sil 166 rfl rfl (fun _ hF => .loadC sz23 ag23 (lk 2 rfl rfl) (by first | rfl | simp) (by first | rfl | simp)) ?_
                first | refine S.qui 167 rfl rfl (fun _ => .load sz23 ag23 (lk 2 rfl rfl) (by first | rfl | simp) rfl (by first | rfl | simp [V.offOf]) (by first | rfl | (simp; done) | (simp; omega)) (by first | rfl | simp)) ?_ | refine S.sil 167 rfl rfl (fun _ hF => .loadC sz23 ag23 (lk 2 rfl rfl) (by first | rfl | simp) (by first | rfl | simp)) ?_
                refine S.sil 168 rfl rfl (fun _ hF => .eqlV eqt23 (lk 1 rfl rfl) (lk 0 rfl rfl) (by first | rfl | simp) (by first | rfl | simp) rfl rfl) ?_
                refine S.sil 169 rfl rfl (fun _ hF => .move (lk 0 rfl rfl)) ?_
                refine S.gsil 170 3 169 true rfl rfl rfl (lk 0 rfl rfl) (fun hB _ hF => .callQ ent10 cF .nil (awake_ok)) ?_
                refine S.sil 171 rfl rfl (fun _ hF => .pickAnd (lk 1 rfl rfl) (fun h => ifT h (lk 0 rfl rfl)) cB) ?_
                refine S.sil 6 rfl rfl (fun _ hF => .assign (lk 0 rfl rfl)) ?_
                refine S.nil ?_
                refine thenQ_n ?_
                refine AWp.prune (.eq (lk 0 rfl rfl) rfl .nil) ?_
                refine AWp.ret ?_
                refine end1 rfl (lk 0 rfl rfl) rfl (by first | rfl | simp []) ?_
                exact congrArg V.bool (by rw [hall]; simp)

end Go.Av
