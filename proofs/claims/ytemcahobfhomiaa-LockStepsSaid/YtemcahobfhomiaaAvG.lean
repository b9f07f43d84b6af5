/- The functions that the statements of this seat reach, each with what it answers. -/
import Derived.Test.YtemcahobfhomiaaProg
import Derived.KernelRfl
import Derived.Test.YtemcahobfhomiaaAvMLock
import Derived.Test.YtemcahobfhomiaaAvLLock
import Derived.Test.YtemcahobfhomiaaAvCore14
namespace Go.Av
open Go.Proofs
set_option linter.unusedVariables false
set_option linter.unusedSimpArgs false
noncomputable abbrev Pg : Program := Try.prog
theorem mixed : Pg.follows .mixedOrders = true := by kernel_rfl
theorem sz3 : szOf Pg 3 = some 1 := by kernel_rfl
theorem ag3 : aggOf Pg 3 = some false := by kernel_rfl
theorem und3 : Pg.underlying 3 = some (.int .i64) := by kernel_rfl
theorem zv3 : ZeroV Pg 3 (.int .i64 0) := ⟨((Pg.info? 3).bind (·.zero)).getD .nilFunc, (by kernel_rfl), (by kernel_rfl), (by kernel_rfl)⟩
theorem sz4 : szOf Pg 4 = some 1 := by kernel_rfl
theorem ag4 : aggOf Pg 4 = some false := by kernel_rfl
theorem und4 : Pg.underlying 4 = some .bool := by kernel_rfl
theorem zv4 : ZeroV Pg 4 (.bool false) := ⟨((Pg.info? 4).bind (·.zero)).getD .nilFunc, (by kernel_rfl), (by kernel_rfl), (by kernel_rfl)⟩
theorem sz23 : szOf Pg 23 = some 4 := by kernel_rfl
theorem ag23 : aggOf Pg 23 = some true := by kernel_rfl
theorem lay23 : layOf Pg 23 = some [(0, 1, false), (1, 1, false), (2, 1, false), (3, 1, false)] := by kernel_rfl
theorem zv23 : ZeroV Pg 23 (.st [.int .i64 0, .int .i64 0, .int .i64 0, .int .i64 0]) := ⟨((Pg.info? 23).bind (·.zero)).getD .nilFunc, (by kernel_rfl), (by kernel_rfl), (by kernel_rfl)⟩
theorem sz34 : szOf Pg 34 = some 2 := by kernel_rfl
theorem ag34 : aggOf Pg 34 = some true := by kernel_rfl
theorem arr34 : arrOf Pg 34 = some (2, 1, false) := by kernel_rfl
theorem zv34 : ZeroV Pg 34 (.arr 1 (List.replicate 2 (.int .i64 0))) := ⟨((Pg.info? 34).bind (·.zero)).getD .nilFunc, (by kernel_rfl), (by kernel_rfl), (by kernel_rfl)⟩
theorem sz42 : szOf Pg 42 = some 1 := by kernel_rfl
theorem ag42 : aggOf Pg 42 = some false := by kernel_rfl
theorem sli42 : sliOf Pg 42 = some (3, 1, false, 8) := by kernel_rfl
theorem und42 : Pg.underlying 42 = some (.slice 3) := by kernel_rfl
theorem zv42 : ZeroV Pg 42 (.nils) := ⟨((Pg.info? 42).bind (·.zero)).getD .nilFunc, (by kernel_rfl), (by kernel_rfl), (by kernel_rfl)⟩
theorem sz46 : szOf Pg 46 = some 8 := by kernel_rfl
theorem ag46 : aggOf Pg 46 = some true := by kernel_rfl
theorem arr46 : arrOf Pg 46 = some (4, 2, true) := by kernel_rfl
theorem zv46 : ZeroV Pg 46 (.arr 2 (List.replicate 4 (.arr 1 (List.replicate 2 (.int .i64 0))))) := ⟨((Pg.info? 46).bind (·.zero)).getD .nilFunc, (by kernel_rfl), (by kernel_rfl), (by kernel_rfl)⟩
theorem eqt23 : EqT Pg 23 (.st [(0, .int .i64), (1, .int .i64), (2, .int .i64), (3, .int .i64)] 4) := ⟨by kernel_rfl, by kernel_rfl⟩
theorem ent9 : enters Pg 9 = true := by kernel_rfl
theorem ent10 : enters Pg 10 = true := by kernel_rfl
theorem ent11 : enters Pg 11 = true := by kernel_rfl
theorem ent12 : enters Pg 12 = true := by kernel_rfl
theorem ent13 : enters Pg 13 = true := by kernel_rfl
theorem ent14 : enters Pg 14 = true := by kernel_rfl
theorem ent15 : enters Pg 15 = true := by kernel_rfl
theorem ent16 : enters Pg 16 = true := by kernel_rfl
theorem ent17 : enters Pg 17 = true := by kernel_rfl
theorem ent18 : enters Pg 18 = true := by kernel_rfl
theorem ent19 : enters Pg 19 = true := by kernel_rfl
theorem ent20 : enters Pg 20 = true := by kernel_rfl
theorem ent21 : enters Pg 21 = true := by kernel_rfl
theorem ent22 : enters Pg 22 = true := by kernel_rfl

theorem Is_ok (n : Int) : PureC Pg 19 [.int .i64 n] (.bool (isN n)) := by
  refine PureC.of (CallSpec.of_body 9 0 Try.func19 rfl rfl rfl (by simp) ?_) (by simp []) (by simp [])
  refine AWp.seq ?_
  refine W.reg [0] rfl ?_
  refine S.sil 2 rfl rfl (fun _ => .assign cB) ?_
  refine S.nil ?_
  refine thenQ_n ?_
  refine AWp.seq ?_
  refine W.reg [0, 1, 2, 3, 4, 5, 6] rfl ?_
  refine S.sil 3 rfl rfl (fun _ => .move (lk 1 rfl rfl)) ?_
  refine S.sil 4 rfl rfl (fun _ => .geq (lk 0 rfl rfl) cI) ?_
  refine S.sil 5 rfl rfl (fun _ => .move (lk 0 rfl rfl)) ?_
  refine S.gsil 6 2 5 true rfl rfl rfl (lk 0 rfl rfl) (fun hB _ => .move (lk 4 rfl rfl)) ?_
  refine S.gsil 7 2 5 true rfl rfl rfl (lk 1 rfl rfl) (fun hB _ => .leq (ifT hB (lk 0 rfl rfl)) cI) ?_
  refine S.sil 8 rfl rfl (fun _ => .pickAnd (lk 2 rfl rfl) (fun h => ifT h (lk 0 rfl rfl)) cB) ?_
  refine S.sil 2 rfl rfl (fun _ => .assign (lk 0 rfl rfl)) ?_
  refine S.nil ?_
  refine thenQ_n ?_
  refine AWp.ret ?_
  refine end1 rfl (lk 0 rfl rfl) rfl (by first | rfl | simp []) ?_
  simp [isN]

theorem checked_ok (n : Int) (xs : List Int) (hx : xs.length ≤ 1000000) : PureC Pg 22 [.int .i64 n, .sl 1 .exact (xs.map (V.int .i64))] (checkedV n (xs ++ [n])) := by
  refine PureC.of (CallSpec.of_body 22 0 Try.func22 rfl rfl rfl (by simp) ?_) (by simp [checkedV]) (by simp [checkedV])
  refine AWp.seq ?_
  refine W.reg [0, 1] rfl ?_
  refine S.sil 4 rfl rfl (fun _ => .assign cI) ?_
  refine S.sil 5 rfl rfl (fun _ => .assign cI) ?_
  refine S.nil ?_
  refine thenQ_n ?_
  refine AWp.seq ?_
  refine AWp.seq ?_
  refine W.reg [0, 1, 2, 3, 4, 5] rfl ?_
  refine S.sil 8 rfl rfl (fun _ => .move (lk 3 rfl rfl)) ?_
  refine S.sil 9 rfl rfl (fun _ => .move (lk 3 rfl rfl)) ?_
  refine S.sil 10 rfl rfl (fun _ => .buildSliceL sli42 zv3 (by first | rfl | simp) rfl (by decide) (.cons (lk 0 rfl rfl) rfl (by first | rfl | simp) .nil)) ?_
  first | refine S.eff 11 rfl rfl (.append sli42 und42 zv3 (by first | rfl | simp) (by decide) (lk 2 rfl rfl) rfl (lk 0 rfl rfl) (by first | exact Rd.sl | exact Rd.nils | exact Rd.slo rfl rfl rfl (by decide)) (by simp; omega)) ?_ | refine S.new 11 rfl rfl (.appendX sli42 und42 zv3 (by first | rfl | simp) (by decide) (lk 2 rfl rfl) (by first | exact V.sub.refl _ | exact V.sub.nils _) (lk 0 rfl rfl) (by first | exact Rd.sl | exact Rd.nils | exact Rd.slo rfl rfl rfl (by decide)) (by simp; omega)) ?_
  first | refine S.sil 12 rfl rfl (fun _ => .len sli42 (lk 0 rfl rfl) (by first | exact V.sub.refl _ | exact V.sub.forget _ _ _ | exact V.sub.nils_no _ | exact V.sub.nils _)) ?_ | refine S.sil 12 rfl rfl (fun _ => .lenO sli42 (lk 0 rfl rfl)) ?_
  refine S.sil 13 rfl rfl (fun _ => .move cI) ?_
  refine S.nil ?_
  refine thenQ_n ?_
  refine AWp.block ?_
  refine AWp.loopS (ι := {i : Nat // i ≤ xs.length + 1 ∧ ∀ j, j < i → isN ((xs ++ [n]).getD j 0) = true}) (fun ⟨i, _⟩ => ⟨[(0, .int .i64 n), (11, .sl 1 (.tok 0) (xs.map (V.int .i64) ++ [.int .i64 n])), (12, .int .i64 ((xs.length + 1 : Nat) : Int)), (13, .int .i64 (i : Int))], [.tail]⟩) (fun ⟨i, _⟩ => xs.length + 1 - i) ⟨0, by omega, by intro j hj; omega⟩ ?_ ?_
  · exact Wk.to 1 (by decide) rfl (.eq (lk 8 rfl rfl) rfl (.eq (lk 2 rfl rfl) rfl (.eq (lk 1 rfl rfl) (by simp) (.eq (lk 0 rfl rfl) rfl .nil)))) (by first | rfl | simp [envLt, V.lt]) (by first | rfl | simp [objsLt, AObj.lt, V.lt])
  · rintro ⟨i, hi1, hi2⟩
    refine AWp.seq ?_
    refine W.reg [0] rfl ?_
    refine S.sil 14 rfl rfl (fun _ => .lss (lk 3 rfl rfl) (lk 2 rfl rfl)) ?_
    refine S.nil ?_
    refine thenQ_n ?_
    refine AWp.seq ?_
    refine AWp.cond (lk 0 rfl rfl) (fun c0 => ?_) (fun c0 => ?_)
    · try simp only [decide_eq_true_eq, decide_eq_false_iff_not, Bool.not_eq_true', Bool.not_eq_false', Bool.and_eq_true, Bool.or_eq_true, Bool.and_eq_false_iff, Bool.or_eq_false_iff, Bool.not_eq_true, Bool.not_eq_false, ite_eq_left_iff] at c0
      have hu : (xs.map (V.int .i64) ++ [V.int .i64 n])[((i : Nat) : Int).toNat]? = some (.int .i64 ((xs ++ [n]).getD i 0)) := by have := map_get (V.int .i64) 0 (l := xs ++ [n]) (i := i) (by simp; omega); simpa using this
      refine AWp.skip ?_
      refine thenQ_n ?_
      refine AWp.seq ?_
      refine AWp.block ?_
      refine AWp.seq ?_
      refine W.reg [0, 1, 2] rfl ?_
      first | refine S.sil 15 rfl rfl (fun _ => .indexAddrS sli42 (lk 2 rfl rfl) (lk 4 rfl rfl) (by omega) (by simp; omega) hu) ?_ | refine S.sil 15 rfl rfl (fun _ => .indexAddrO sli42 (lk 2 rfl rfl) (lk 4 rfl rfl) (by omega) (by simp; omega)) ?_
      first | refine S.qui 16 rfl rfl (fun _ => .load sz3 ag3 (lk 0 rfl rfl) (by first | rfl | simp) rfl rfl (by first | rfl | simp) (by first | rfl | simp)) ?_ | refine S.sil 16 rfl rfl (fun _ => .loadC sz3 ag3 (lk 0 rfl rfl) (by first | rfl | simp) (by first | rfl | simp)) ?_
      refine S.sil 7 rfl rfl (fun _ => .assign (lk 0 rfl rfl)) ?_
      refine S.nil ?_
      refine thenQ_n ?_
      refine AWp.seq ?_
      refine W.reg [0, 1, 2] rfl ?_
      refine S.sil 17 rfl rfl (fun _ => .move (lk 0 rfl rfl)) ?_
      refine S.sil 18 rfl rfl (fun _ => .callQ ent19 cF (.c (lk 0 rfl rfl) (by first | exact V.sub.refl _ | exact V.sub.forget _ _ _ | exact V.sub.nils_no _ | exact V.sub.nils _) .nil) (Is_ok _)) ?_
      refine S.sil 19 rfl rfl (fun _ => .not (lk 0 rfl rfl)) ?_
      refine S.nil ?_
      refine thenQ_n ?_
      refine AWp.cond (lk 0 rfl rfl) (fun c1 => ?_) (fun c1 => ?_)
      · try simp only [decide_eq_true_eq, decide_eq_false_iff_not, Bool.not_eq_true', Bool.not_eq_false', Bool.and_eq_true, Bool.or_eq_true, Bool.and_eq_false_iff, Bool.or_eq_false_iff, Bool.not_eq_true, Bool.not_eq_false, ite_eq_left_iff] at c1
        refine AWp.seq ?_
        refine W.reg [0, 1] rfl ?_
        refine S.sil 4 rfl rfl (fun _ => .assign cI) ?_
        refine S.sil 5 rfl rfl (fun _ => .assign cI) ?_
        refine S.nil ?_
        refine thenQ_n ?_
        refine AWp.ret ?_
        refine blockQ_r ?_
        refine thenQ_r ?_
        refine thenQ_r ?_
        refine blockQ_r ?_
        refine thenQ_r ?_
        refine endN rfl (.cons (.tmp (lk 1 rfl rfl) rfl) (.cons (.tmp (lk 0 rfl rfl) rfl) .nil)) rfl (by first | rfl | simp [V.ltL, checkedV]) ?_
        exact (checkedV_no (i := i) (by simp; omega) c1).symm
      · try simp only [decide_eq_true_eq, decide_eq_false_iff_not, Bool.not_eq_true', Bool.not_eq_false', Bool.and_eq_true, Bool.or_eq_true, Bool.and_eq_false_iff, Bool.or_eq_false_iff, Bool.not_eq_true, Bool.not_eq_false, ite_eq_left_iff] at c1
        refine AWp.skip ?_
        refine blockQ_n ?_
        refine thenQ_n ?_
        refine W.reg [0, 1] rfl ?_
        refine S.sil 20 rfl rfl (fun _ => .add (lk 10 rfl rfl) cI) ?_
        refine S.sil 13 rfl rfl (fun _ => .move (lk 0 rfl rfl)) ?_
        refine S.nil ?_
        refine thenQ_n ?_
        refine ⟨⟨i + 1, by omega, fun j hj => by rcases Nat.lt_succ_iff_lt_or_eq.1 hj with h | h; exact hi2 j h; subst h; exact c1⟩, by simp; omega, ?_⟩
        exact Wk.to 1 (by decide) rfl (.eq (lk 9 rfl rfl) rfl (.eq (lk 10 rfl rfl) rfl (.eq (lk 11 rfl rfl) rfl (.eq (lk 0 rfl rfl) (by rw [wrap_id (by omega) (by omega)]; rfl) .nil)))) (by first | rfl | simp [envLt, V.lt]) (by first | rfl | simp [objsLt, AObj.lt, V.lt])
    · try simp only [decide_eq_true_eq, decide_eq_false_iff_not, Bool.not_eq_true', Bool.not_eq_false', Bool.and_eq_true, Bool.or_eq_true, Bool.and_eq_false_iff, Bool.or_eq_false_iff, Bool.not_eq_true, Bool.not_eq_false, ite_eq_left_iff] at c0
      refine AWp.exit ?_
      refine thenQ_x ?_
      refine thenQ_x ?_
      refine blockQ_x ?_
      refine thenQ_n ?_
      refine AWp.seq ?_
      refine W.reg [0, 1, 2] rfl ?_
      refine S.sil 21 rfl rfl (fun _ => .move (lk 1 rfl rfl)) ?_
      refine S.sil 4 rfl rfl (fun _ => .assign (lk 0 rfl rfl)) ?_
      refine S.sil 5 rfl rfl (fun _ => .assign cI) ?_
      refine S.nil ?_
      refine thenQ_n ?_
      refine AWp.ret ?_
      refine endN rfl (.cons (.tmp (lk 1 rfl rfl) rfl) (.cons (.tmp (lk 0 rfl rfl) rfl) .nil)) rfl (by first | rfl | simp [V.ltL, checkedV]) ?_
      exact (checkedV_yes (fun j hj => hi2 j (by simp at hj; omega))).symm

theorem Add_ok (a b : Int) : PureC Pg 20 [.int .i64 a, .int .i64 b] (.tup [.int .i64 (addN a b), .int .i64 (addE a b)]) := by
  refine PureC.of (CallSpec.of_body 15 0 Try.func20 rfl rfl rfl (by simp) ?_) (by simp []) (by simp [])
  refine AWp.seq ?_
  refine W.reg [0, 1] rfl ?_
  refine S.sil 4 rfl rfl (fun _ => .assign cI) ?_
  refine S.sil 5 rfl rfl (fun _ => .assign cI) ?_
  refine S.nil ?_
  refine thenQ_n ?_
  refine AWp.seq ?_
  refine W.reg [0, 1, 2, 3, 4, 5, 6, 7, 8, 9, 10] rfl ?_
  refine S.sil 6 rfl rfl (fun _ => .move (lk 2 rfl rfl)) ?_
  refine S.sil 7 rfl rfl (fun _ => .move (lk 4 rfl rfl)) ?_
  refine S.sil 8 rfl rfl (fun _ => .add (lk 1 rfl rfl) (lk 0 rfl rfl)) ?_
  refine S.sil 9 rfl rfl (fun _ => .move (lk 5 rfl rfl)) ?_
  refine S.sil 10 rfl rfl (fun _ => .move (lk 7 rfl rfl)) ?_
  refine S.sil 11 rfl rfl (fun _ => .buildSliceL sli42 zv3 (by first | rfl | simp) rfl (by decide) (.cons (lk 1 rfl rfl) rfl (by first | rfl | simp) (.cons (lk 0 rfl rfl) rfl (by first | rfl | simp) .nil))) ?_
  refine S.sil 12 rfl rfl (fun _ => .callQ ent22 cF (.c (lk 3 rfl rfl) (by first | exact V.sub.refl _ | exact V.sub.forget _ _ _ | exact V.sub.nils_no _ | exact V.sub.nils _) (.c (lk 0 rfl rfl) (by first | exact V.sub.refl _ | exact V.sub.forget _ _ _ | exact V.sub.nils_no _ | exact V.sub.nils _) .nil)) (checked_ok _ [a, b] (by simp))) ?_
  refine S.sil 13 rfl rfl (fun _ => .extract (lk 0 rfl rfl) rfl) ?_
  refine S.sil 14 rfl rfl (fun _ => .extract (lk 1 rfl rfl) rfl) ?_
  refine S.sil 4 rfl rfl (fun _ => .assign (lk 1 rfl rfl)) ?_
  refine S.sil 5 rfl rfl (fun _ => .assign (lk 1 rfl rfl)) ?_
  refine S.nil ?_
  refine thenQ_n ?_
  refine AWp.ret ?_
  refine endN rfl (.cons (.tmp (lk 1 rfl rfl) rfl) (.cons (.tmp (lk 0 rfl rfl) rfl) .nil)) rfl (by first | rfl | simp [V.ltL, ]) ?_
  rw [chkN_add, chkE_add]

theorem lockis_ok (k : Int) : PureC Pg 18 [.int .i64 k] (.bool (isR k)) := by
  refine PureC.of (CallSpec.of_body 9 0 Try.func18 rfl rfl rfl (by simp) ?_) (by simp []) (by simp [])
  refine AWp.seq ?_
  refine W.reg [0] rfl ?_
  refine S.sil 2 rfl rfl (fun _ => .assign cB) ?_
  refine S.nil ?_
  refine thenQ_n ?_
  refine AWp.seq ?_
  refine W.reg [0, 1, 2, 3, 4, 5, 6] rfl ?_
  refine S.sil 3 rfl rfl (fun _ => .move (lk 1 rfl rfl)) ?_
  refine S.sil 4 rfl rfl (fun _ => .geq (lk 0 rfl rfl) cI) ?_
  refine S.sil 5 rfl rfl (fun _ => .move (lk 0 rfl rfl)) ?_
  refine S.gsil 6 2 5 true rfl rfl rfl (lk 0 rfl rfl) (fun hB _ => .move (lk 4 rfl rfl)) ?_
  refine S.gsil 7 2 5 true rfl rfl rfl (lk 1 rfl rfl) (fun hB _ => .lss (ifT hB (lk 0 rfl rfl)) cI) ?_
  refine S.sil 8 rfl rfl (fun _ => .pickAnd (lk 2 rfl rfl) (fun h => ifT h (lk 0 rfl rfl)) cB) ?_
  refine S.sil 2 rfl rfl (fun _ => .assign (lk 0 rfl rfl)) ?_
  refine S.nil ?_
  refine thenQ_n ?_
  refine AWp.ret ?_
  refine end1 rfl (lk 0 rfl rfl) rfl (by first | rfl | simp []) ?_
  rfl

theorem Compare_ok (a b : Lock) : PureC Pg 9 [encLock a, encLock b] (.int .i64 (cmpLock a b)) := by
  refine PureC.of (CallSpec.of_body 42 0 Try.func9 rfl rfl rfl (by simp) ?_) (by simp []) (by simp [])
  refine AWp.seq ?_
  refine W.reg [0, 1, 2] rfl ?_
  refine S.new 2 rfl rfl (.box (lk 0 rfl rfl) rfl) ?_
  refine S.new 3 rfl rfl (.box (lk 2 rfl rfl) rfl) ?_
  refine S.sil 4 rfl rfl (fun _ => .assign cI) ?_
  refine S.nil ?_
  refine thenQ_n ?_
  refine AWp.seq ?_
  refine AWp.seq ?_
  refine W.reg [0, 1, 2, 3, 4, 5, 6, 7, 8, 9, 10, 11, 12, 13, 14, 15, 16, 17, 18, 19, 20, 21] rfl ?_
  first | refine S.sil 7 rfl rfl (fun _ => .fieldAddr lay23 rfl rfl (lk 2 rfl rfl)) ?_ | refine S.sil 7 rfl rfl (fun _ => .fieldAddrC lay23 rfl rfl (lk 2 rfl rfl) rfl (by first | rfl | simp)) ?_
  first | refine S.qui 8 rfl rfl (fun _ => .load sz3 ag3 (lk 0 rfl rfl) (by first | rfl | simp) rfl rfl (by first | rfl | simp) (by first | rfl | simp)) ?_ | refine S.sil 8 rfl rfl (fun _ => .loadC sz3 ag3 (lk 0 rfl rfl) (by first | rfl | simp) (by first | rfl | simp)) ?_
  first | refine S.sil 9 rfl rfl (fun _ => .fieldAddr lay23 rfl rfl (lk 3 rfl rfl)) ?_ | refine S.sil 9 rfl rfl (fun _ => .fieldAddrC lay23 rfl rfl (lk 3 rfl rfl) rfl (by first | rfl | simp)) ?_
  first | refine S.qui 10 rfl rfl (fun _ => .load sz3 ag3 (lk 0 rfl rfl) (by first | rfl | simp) rfl rfl (by first | rfl | simp) (by first | rfl | simp)) ?_ | refine S.sil 10 rfl rfl (fun _ => .loadC sz3 ag3 (lk 0 rfl rfl) (by first | rfl | simp) (by first | rfl | simp)) ?_
  refine S.sil 11 rfl rfl (fun _ => .buildArrL arr34 zv34 (.cons (lk 2 rfl rfl) rfl (by first | rfl | simp) (by first | rfl | simp) (.cons (lk 0 rfl rfl) rfl (by first | rfl | simp) (by first | rfl | simp) .nil)) rfl rfl) ?_
  first | refine S.sil 12 rfl rfl (fun _ => .fieldAddr lay23 rfl rfl (lk 7 rfl rfl)) ?_ | refine S.sil 12 rfl rfl (fun _ => .fieldAddrC lay23 rfl rfl (lk 7 rfl rfl) rfl (by first | rfl | simp)) ?_
  first | refine S.qui 13 rfl rfl (fun _ => .load sz3 ag3 (lk 0 rfl rfl) (by first | rfl | simp) rfl rfl (by first | rfl | simp) (by first | rfl | simp)) ?_ | refine S.sil 13 rfl rfl (fun _ => .loadC sz3 ag3 (lk 0 rfl rfl) (by first | rfl | simp) (by first | rfl | simp)) ?_
  first | refine S.sil 14 rfl rfl (fun _ => .fieldAddr lay23 rfl rfl (lk 8 rfl rfl)) ?_ | refine S.sil 14 rfl rfl (fun _ => .fieldAddrC lay23 rfl rfl (lk 8 rfl rfl) rfl (by first | rfl | simp)) ?_
  first | refine S.qui 15 rfl rfl (fun _ => .load sz3 ag3 (lk 0 rfl rfl) (by first | rfl | simp) rfl rfl (by first | rfl | simp) (by first | rfl | simp)) ?_ | refine S.sil 15 rfl rfl (fun _ => .loadC sz3 ag3 (lk 0 rfl rfl) (by first | rfl | simp) (by first | rfl | simp)) ?_
  refine S.sil 16 rfl rfl (fun _ => .buildArrL arr34 zv34 (.cons (lk 2 rfl rfl) rfl (by first | rfl | simp) (by first | rfl | simp) (.cons (lk 0 rfl rfl) rfl (by first | rfl | simp) (by first | rfl | simp) .nil)) rfl rfl) ?_
  first | refine S.sil 17 rfl rfl (fun _ => .fieldAddr lay23 rfl rfl (lk 12 rfl rfl)) ?_ | refine S.sil 17 rfl rfl (fun _ => .fieldAddrC lay23 rfl rfl (lk 12 rfl rfl) rfl (by first | rfl | simp)) ?_
  first | refine S.qui 18 rfl rfl (fun _ => .load sz3 ag3 (lk 0 rfl rfl) (by first | rfl | simp) rfl rfl (by first | rfl | simp) (by first | rfl | simp)) ?_ | refine S.sil 18 rfl rfl (fun _ => .loadC sz3 ag3 (lk 0 rfl rfl) (by first | rfl | simp) (by first | rfl | simp)) ?_
  first | refine S.sil 19 rfl rfl (fun _ => .fieldAddr lay23 rfl rfl (lk 13 rfl rfl)) ?_ | refine S.sil 19 rfl rfl (fun _ => .fieldAddrC lay23 rfl rfl (lk 13 rfl rfl) rfl (by first | rfl | simp)) ?_
  first | refine S.qui 20 rfl rfl (fun _ => .load sz3 ag3 (lk 0 rfl rfl) (by first | rfl | simp) rfl rfl (by first | rfl | simp) (by first | rfl | simp)) ?_ | refine S.sil 20 rfl rfl (fun _ => .loadC sz3 ag3 (lk 0 rfl rfl) (by first | rfl | simp) (by first | rfl | simp)) ?_
  refine S.sil 21 rfl rfl (fun _ => .buildArrL arr34 zv34 (.cons (lk 2 rfl rfl) rfl (by first | rfl | simp) (by first | rfl | simp) (.cons (lk 0 rfl rfl) rfl (by first | rfl | simp) (by first | rfl | simp) .nil)) rfl rfl) ?_
  first | refine S.sil 22 rfl rfl (fun _ => .fieldAddr lay23 rfl rfl (lk 17 rfl rfl)) ?_ | refine S.sil 22 rfl rfl (fun _ => .fieldAddrC lay23 rfl rfl (lk 17 rfl rfl) rfl (by first | rfl | simp)) ?_
  first | refine S.qui 23 rfl rfl (fun _ => .load sz3 ag3 (lk 0 rfl rfl) (by first | rfl | simp) rfl rfl (by first | rfl | simp) (by first | rfl | simp)) ?_ | refine S.sil 23 rfl rfl (fun _ => .loadC sz3 ag3 (lk 0 rfl rfl) (by first | rfl | simp) (by first | rfl | simp)) ?_
  first | refine S.sil 24 rfl rfl (fun _ => .fieldAddr lay23 rfl rfl (lk 18 rfl rfl)) ?_ | refine S.sil 24 rfl rfl (fun _ => .fieldAddrC lay23 rfl rfl (lk 18 rfl rfl) rfl (by first | rfl | simp)) ?_
  first | refine S.qui 25 rfl rfl (fun _ => .load sz3 ag3 (lk 0 rfl rfl) (by first | rfl | simp) rfl rfl (by first | rfl | simp) (by first | rfl | simp)) ?_ | refine S.sil 25 rfl rfl (fun _ => .loadC sz3 ag3 (lk 0 rfl rfl) (by first | rfl | simp) (by first | rfl | simp)) ?_
  refine S.sil 26 rfl rfl (fun _ => .buildArrL arr34 zv34 (.cons (lk 2 rfl rfl) rfl (by first | rfl | simp) (by first | rfl | simp) (.cons (lk 0 rfl rfl) rfl (by first | rfl | simp) (by first | rfl | simp) .nil)) rfl rfl) ?_
  refine S.sil 27 rfl rfl (fun _ => .buildArrL arr46 zv46 (.cons (lk 15 rfl rfl) rfl (by first | rfl | simp) (by first | rfl | simp) (.cons (lk 10 rfl rfl) rfl (by first | rfl | simp) (by first | rfl | simp) (.cons (lk 5 rfl rfl) rfl (by first | rfl | simp) (by first | rfl | simp) (.cons (lk 0 rfl rfl) rfl (by first | rfl | simp) (by first | rfl | simp) .nil)))) rfl rfl) ?_
  refine S.sil 28 rfl rfl (fun _ => .move cI) ?_
  refine S.nil ?_
  refine thenQ_n ?_
  refine AWp.block ?_
  refine AWp.loopS (ι := {i : Nat // i ≤ 4 ∧ ∀ j, j < i → ((lockPairs a b).getD j (0, 0)).1 = ((lockPairs a b).getD j (0, 0)).2}) (fun ⟨i, _⟩ => ⟨[(27, .arr 2 ((lockPairs a b).map fun p => .arr 1 [.int .i64 p.1, .int .i64 p.2])), (28, .int .i64 (i : Int))], []⟩) (fun ⟨i, _⟩ => 4 - i) ⟨0, by omega, by intro j hj; omega⟩ ?_ ?_
  · exact Wk.to 0 (by decide) rfl (.eq (lk 1 rfl rfl) rfl (.eq (lk 0 rfl rfl) rfl .nil)) (by simp [lockPairs]) (by first | rfl | simp [objsLt, AObj.lt, V.lt])
  · rintro ⟨i, hi1, hi2⟩
    refine AWp.seq ?_
    refine W.reg [0] rfl ?_
    refine S.sil 29 rfl rfl (fun _ => .lss (lk 1 rfl rfl) cI) ?_
    refine S.nil ?_
    refine thenQ_n ?_
    refine AWp.seq ?_
    refine AWp.cond (lk 0 rfl rfl) (fun c0 => ?_) (fun c0 => ?_)
    · try simp only [decide_eq_true_eq, decide_eq_false_iff_not, Bool.not_eq_true', Bool.not_eq_false', Bool.and_eq_true, Bool.or_eq_true, Bool.and_eq_false_iff, Bool.or_eq_false_iff, Bool.not_eq_true, Bool.not_eq_false, ite_eq_left_iff] at c0
      have hu : ((lockPairs a b).map fun p => V.arr 1 [.int .i64 p.1, .int .i64 p.2])[((i : Nat) : Int).toNat]? = some (.arr 1 [.int .i64 ((lockPairs a b).getD i (0, 0)).1, .int .i64 ((lockPairs a b).getD i (0, 0)).2]) := map_get (fun p : Int × Int => V.arr 1 [.int .i64 p.1, .int .i64 p.2]) (0, 0) (by simp [lockPairs]; omega)
      refine AWp.skip ?_
      refine thenQ_n ?_
      refine AWp.seq ?_
      refine AWp.block ?_
      refine AWp.seq ?_
      refine W.reg [0, 1, 2] rfl ?_
      refine S.sil 30 rfl rfl (fun _ => .index arr46 (lk 1 rfl rfl) (lk 2 rfl rfl) (by omega) (by omega) hu (by first | rfl | simp)) ?_
      refine S.new 6 rfl rfl (.alloc zv34) ?_
      refine S.effN rfl rfl (.store sz34 (lk 0 rfl rfl) (lk 1 rfl rfl) rfl rfl rfl rfl (by first | rfl | simp) (by first | rfl | simp)) ?_
      refine S.nil ?_
      refine thenQ_n ?_
      refine AWp.seq ?_
      refine W.reg [0, 1, 2, 3, 4] rfl ?_
      first | refine S.sil 31 rfl rfl (fun _ => .indexAddr arr34 (lk 0 rfl rfl) cI (by first | decide | omega) (by first | decide | omega)) ?_ | refine S.sil 31 rfl rfl (fun _ => .indexAddrC arr34 (lk 0 rfl rfl) cI (by first | decide | omega) (by first | decide | omega) (by first | rfl | assumption | (simp; done))) ?_
      first | refine S.qui 32 rfl rfl (fun _ => .load sz3 ag3 (lk 0 rfl rfl) (by first | rfl | simp) rfl rfl (by first | rfl | simp) (by first | rfl | simp)) ?_ | refine S.sil 32 rfl rfl (fun _ => .loadC sz3 ag3 (lk 0 rfl rfl) (by first | rfl | simp) (by first | rfl | simp)) ?_
      first | refine S.sil 33 rfl rfl (fun _ => .indexAddr arr34 (lk 2 rfl rfl) cI (by first | decide | omega) (by first | decide | omega)) ?_ | refine S.sil 33 rfl rfl (fun _ => .indexAddrC arr34 (lk 2 rfl rfl) cI (by first | decide | omega) (by first | decide | omega) (by first | rfl | assumption | (simp; done))) ?_
      first | refine S.qui 34 rfl rfl (fun _ => .load sz3 ag3 (lk 0 rfl rfl) (by first | rfl | simp) rfl rfl (by first | rfl | simp) (by first | rfl | simp)) ?_ | refine S.sil 34 rfl rfl (fun _ => .loadC sz3 ag3 (lk 0 rfl rfl) (by first | rfl | simp) (by first | rfl | simp)) ?_
      refine S.sil 35 rfl rfl (fun _ => .neq (lk 2 rfl rfl) (lk 0 rfl rfl)) ?_
      refine S.nil ?_
      refine thenQ_n ?_
      refine AWp.cond (lk 0 rfl rfl) (fun c1 => ?_) (fun c1 => ?_)
      · try simp only [decide_eq_true_eq, decide_eq_false_iff_not, Bool.not_eq_true', Bool.not_eq_false', Bool.and_eq_true, Bool.or_eq_true, Bool.and_eq_false_iff, Bool.or_eq_false_iff, Bool.not_eq_true, Bool.not_eq_false, ite_eq_left_iff] at c1
        refine AWp.seq ?_
        refine AWp.seq ?_
        refine W.reg [0, 1, 2, 3, 4] rfl ?_
        first | refine S.sil 36 rfl rfl (fun _ => .indexAddr arr34 (lk 5 rfl rfl) cI (by first | decide | omega) (by first | decide | omega)) ?_ | refine S.sil 36 rfl rfl (fun _ => .indexAddrC arr34 (lk 5 rfl rfl) cI (by first | decide | omega) (by first | decide | omega) (by first | rfl | assumption | (simp; done))) ?_
        first | refine S.qui 37 rfl rfl (fun _ => .load sz3 ag3 (lk 0 rfl rfl) (by first | rfl | simp) rfl rfl (by first | rfl | simp) (by first | rfl | simp)) ?_ | refine S.sil 37 rfl rfl (fun _ => .loadC sz3 ag3 (lk 0 rfl rfl) (by first | rfl | simp) (by first | rfl | simp)) ?_
        first | refine S.sil 38 rfl rfl (fun _ => .indexAddr arr34 (lk 7 rfl rfl) cI (by first | decide | omega) (by first | decide | omega)) ?_ | refine S.sil 38 rfl rfl (fun _ => .indexAddrC arr34 (lk 7 rfl rfl) cI (by first | decide | omega) (by first | decide | omega) (by first | rfl | assumption | (simp; done))) ?_
        first | refine S.qui 39 rfl rfl (fun _ => .load sz3 ag3 (lk 0 rfl rfl) (by first | rfl | simp) rfl rfl (by first | rfl | simp) (by first | rfl | simp)) ?_ | refine S.sil 39 rfl rfl (fun _ => .loadC sz3 ag3 (lk 0 rfl rfl) (by first | rfl | simp) (by first | rfl | simp)) ?_
        refine S.sil 40 rfl rfl (fun _ => .gtr (lk 2 rfl rfl) (lk 0 rfl rfl)) ?_
        refine S.nil ?_
        refine thenQ_n ?_
        refine AWp.cond (lk 0 rfl rfl) (fun c2 => ?_) (fun c2 => ?_)
        · try simp only [decide_eq_true_eq, decide_eq_false_iff_not, Bool.not_eq_true', Bool.not_eq_false', Bool.and_eq_true, Bool.or_eq_true, Bool.and_eq_false_iff, Bool.or_eq_false_iff, Bool.not_eq_true, Bool.not_eq_false, ite_eq_left_iff] at c2
          refine AWp.seq ?_
          refine W.reg [0] rfl ?_
          refine S.sil 4 rfl rfl (fun _ => .assign cI) ?_
          refine S.nil ?_
          refine thenQ_n ?_
          refine AWp.ret ?_
          refine thenQ_r ?_
          refine blockQ_r ?_
          refine thenQ_r ?_
          refine thenQ_r ?_
          refine blockQ_r ?_
          refine thenQ_r ?_
          refine end1 rfl (lk 0 rfl rfl) rfl (by first | rfl | simp []) ?_
          rw [cmpLock, cmpP_at (i := i) (by simp [lockPairs]; omega) hi2 c1, if_pos c2]
        · try simp only [decide_eq_true_eq, decide_eq_false_iff_not, Bool.not_eq_true', Bool.not_eq_false', Bool.and_eq_true, Bool.or_eq_true, Bool.and_eq_false_iff, Bool.or_eq_false_iff, Bool.not_eq_true, Bool.not_eq_false, ite_eq_left_iff] at c2
          refine AWp.skip ?_
          refine thenQ_n ?_
          refine AWp.seq ?_
          refine W.reg [0] rfl ?_
          refine S.sil 4 rfl rfl (fun _ => .assign cI) ?_
          refine S.nil ?_
          refine thenQ_n ?_
          refine AWp.ret ?_
          refine blockQ_r ?_
          refine thenQ_r ?_
          refine thenQ_r ?_
          refine blockQ_r ?_
          refine thenQ_r ?_
          refine end1 rfl (lk 0 rfl rfl) rfl (by first | rfl | simp []) ?_
          rw [cmpLock, cmpP_at (i := i) (by simp [lockPairs]; omega) hi2 c1, if_neg (by omega)]
      · try simp only [decide_eq_true_eq, decide_eq_false_iff_not, Bool.not_eq_true', Bool.not_eq_false', Bool.and_eq_true, Bool.or_eq_true, Bool.and_eq_false_iff, Bool.or_eq_false_iff, Bool.not_eq_true, Bool.not_eq_false, ite_eq_left_iff] at c1
        refine AWp.skip ?_
        refine blockQ_n ?_
        refine thenQ_n ?_
        refine W.reg [0, 1] rfl ?_
        refine S.sil 41 rfl rfl (fun _ => .add (lk 9 rfl rfl) cI) ?_
        refine S.sil 28 rfl rfl (fun _ => .move (lk 0 rfl rfl)) ?_
        refine S.nil ?_
        refine thenQ_n ?_
        refine ⟨⟨i + 1, by omega, fun j hj => by rcases Nat.lt_succ_iff_lt_or_eq.1 hj with h | h; exact hi2 j h; subst h; exact c1⟩, by simp; omega, ?_⟩
        exact Wk.to 0 (by decide) rfl (.eq (lk 10 rfl rfl) rfl (.eq (lk 0 rfl rfl) (by rw [wrap_id (by omega) (by omega)]; rfl) .nil)) (by simp [lockPairs]) (by first | rfl | simp [objsLt, AObj.lt, V.lt])
    · try simp only [decide_eq_true_eq, decide_eq_false_iff_not, Bool.not_eq_true', Bool.not_eq_false', Bool.and_eq_true, Bool.or_eq_true, Bool.and_eq_false_iff, Bool.or_eq_false_iff, Bool.not_eq_true, Bool.not_eq_false, ite_eq_left_iff] at c0
      refine AWp.exit ?_
      refine thenQ_x ?_
      refine thenQ_x ?_
      refine blockQ_x ?_
      refine thenQ_n ?_
      refine AWp.seq ?_
      refine W.reg [0] rfl ?_
      refine S.sil 4 rfl rfl (fun _ => .assign cI) ?_
      refine S.nil ?_
      refine thenQ_n ?_
      refine AWp.ret ?_
      refine end1 rfl (lk 0 rfl rfl) rfl (by first | rfl | simp []) ?_
      rw [cmpLock, cmpP_all (fun j hj => hi2 j (by simp [lockPairs] at hj; omega))]

theorem New_ok (h v : Int) : PureC Pg 14 [.int .i64 h, .int .i64 v] (.tup [encLock (newLock h v).1, .int .i64 (newLock h v).2]) := by
  refine PureC.of (CallSpec.of_body 19 0 Try.func14 rfl rfl rfl (by simp) ?_) (by simp []) (by simp [])
  refine AWp.seq ?_
  refine W.reg [0, 1] rfl ?_
  refine S.new 4 rfl rfl (.alloc zv23) ?_
  refine S.sil 5 rfl rfl (fun _ => .assign cI) ?_
  refine S.nil ?_
  refine thenQ_n ?_
  refine AWp.seq ?_
  refine AWp.block ?_
  refine AWp.seq ?_
  refine W.reg [0, 1, 2, 3] rfl ?_
  refine S.sil 7 rfl rfl (fun _ => .move (lk 2 rfl rfl)) ?_
  refine S.sil 8 rfl rfl (fun _ => .callQ ent18 cF (.c (lk 0 rfl rfl) (by first | exact V.sub.refl _ | exact V.sub.forget _ _ _ | exact V.sub.nils_no _ | exact V.sub.nils _) .nil) (lockis_ok _)) ?_
  refine S.sil 9 rfl rfl (fun _ => .not (lk 0 rfl rfl)) ?_
  refine S.sil 6 rfl rfl (fun _ => .assign (lk 0 rfl rfl)) ?_
  refine S.nil ?_
  refine thenQ_n ?_
  refine AWp.cond (lk 0 rfl rfl) (fun c0 => ?_) (fun c0 => ?_)
  · try simp only [decide_eq_true_eq, decide_eq_false_iff_not, Bool.not_eq_true', Bool.not_eq_false', Bool.and_eq_true, Bool.or_eq_true, Bool.and_eq_false_iff, Bool.or_eq_false_iff, Bool.not_eq_true, Bool.not_eq_false, ite_eq_left_iff] at c0
    refine AWp.seq ?_
    refine W.reg [0, 1, 2] rfl ?_
    refine S.sil 10 rfl rfl (fun _ => .buildStL lay23 zv23 .nil rfl rfl) ?_
    refine S.effN rfl rfl (.store sz23 (lk 6 rfl rfl) (lk 0 rfl rfl) rfl rfl rfl rfl (by first | rfl | simp) (by first | rfl | simp)) ?_
    refine S.sil 5 rfl rfl (fun _ => .assign cI) ?_
    refine S.nil ?_
    refine thenQ_n ?_
    refine AWp.ret ?_
    refine blockQ_r ?_
    refine thenQ_r ?_
    refine endN rfl (.cons (.cell sz23 ag23 (lk 7 rfl rfl) (by first | rfl | simp) rfl rfl (by first | rfl | simp) (by first | rfl | simp)) (.cons (.tmp (lk 0 rfl rfl) rfl) .nil)) rfl (by first | rfl | simp [V.ltL, ]) ?_
    simp [newLock, *]; rfl
  · try simp only [decide_eq_true_eq, decide_eq_false_iff_not, Bool.not_eq_true', Bool.not_eq_false', Bool.and_eq_true, Bool.or_eq_true, Bool.and_eq_false_iff, Bool.or_eq_false_iff, Bool.not_eq_true, Bool.not_eq_false, ite_eq_left_iff] at c0
    refine AWp.seq ?_
    refine W.reg [0, 1, 2, 3] rfl ?_
    refine S.sil 12 rfl rfl (fun _ => .move (lk 7 rfl rfl)) ?_
    refine S.sil 13 rfl rfl (fun _ => .callQ ent19 cF (.c (lk 0 rfl rfl) (by first | exact V.sub.refl _ | exact V.sub.forget _ _ _ | exact V.sub.nils_no _ | exact V.sub.nils _) .nil) (Is_ok _)) ?_
    refine S.sil 14 rfl rfl (fun _ => .not (lk 0 rfl rfl)) ?_
    refine S.sil 11 rfl rfl (fun _ => .assign (lk 0 rfl rfl)) ?_
    refine S.nil ?_
    refine thenQ_n ?_
    refine AWp.cond (lk 0 rfl rfl) (fun c1 => ?_) (fun c1 => ?_)
    · try simp only [decide_eq_true_eq, decide_eq_false_iff_not, Bool.not_eq_true', Bool.not_eq_false', Bool.and_eq_true, Bool.or_eq_true, Bool.and_eq_false_iff, Bool.or_eq_false_iff, Bool.not_eq_true, Bool.not_eq_false, ite_eq_left_iff] at c1
      refine AWp.seq ?_
      refine W.reg [0, 1, 2] rfl ?_
      refine S.sil 15 rfl rfl (fun _ => .buildStL lay23 zv23 .nil rfl rfl) ?_
      refine S.effN rfl rfl (.store sz23 (lk 10 rfl rfl) (lk 0 rfl rfl) rfl rfl rfl rfl (by first | rfl | simp) (by first | rfl | simp)) ?_
      refine S.sil 5 rfl rfl (fun _ => .assign cI) ?_
      refine S.nil ?_
      refine thenQ_n ?_
      refine AWp.ret ?_
      refine blockQ_r ?_
      refine thenQ_r ?_
      refine endN rfl (.cons (.cell sz23 ag23 (lk 11 rfl rfl) (by first | rfl | simp) rfl rfl (by first | rfl | simp) (by first | rfl | simp)) (.cons (.tmp (lk 0 rfl rfl) rfl) .nil)) rfl (by first | rfl | simp [V.ltL, ]) ?_
      simp [newLock, *]; rfl
    · try simp only [decide_eq_true_eq, decide_eq_false_iff_not, Bool.not_eq_true', Bool.not_eq_false', Bool.and_eq_true, Bool.or_eq_true, Bool.and_eq_false_iff, Bool.or_eq_false_iff, Bool.not_eq_true, Bool.not_eq_false, ite_eq_left_iff] at c1
      refine AWp.skip ?_
      refine blockQ_n ?_
      refine thenQ_n ?_
      refine AWp.seq ?_
      refine W.reg [0, 1, 2, 3, 4] rfl ?_
      refine S.sil 16 rfl rfl (fun _ => .move (lk 10 rfl rfl)) ?_
      refine S.sil 17 rfl rfl (fun _ => .move (lk 12 rfl rfl)) ?_
      refine S.sil 18 rfl rfl (fun _ => .buildStL lay23 zv23 (.cons (lk 1 rfl rfl) rfl (by first | rfl | simp) (by first | rfl | simp) (.cons (lk 0 rfl rfl) rfl (by first | rfl | simp) (by first | rfl | simp) .nil)) rfl rfl) ?_
      refine S.effN rfl rfl (.store sz23 (lk 12 rfl rfl) (lk 0 rfl rfl) rfl rfl rfl rfl (by first | rfl | simp) (by first | rfl | simp)) ?_
      refine S.sil 5 rfl rfl (fun _ => .assign cI) ?_
      refine S.nil ?_
      refine thenQ_n ?_
      refine AWp.ret ?_
      refine endN rfl (.cons (.cell sz23 ag23 (lk 13 rfl rfl) (by first | rfl | simp) rfl rfl (by first | rfl | simp) (by first | rfl | simp)) (.cons (.tmp (lk 0 rfl rfl) rfl) .nil)) rfl (by first | rfl | simp [V.ltL, ]) ?_
      simp [newLock, *]; rfl

theorem Write_ok (l : Lock) (k v : Int) : PureC Pg 15 [encLock l, .int .i64 k, .int .i64 v] (.tup [encLock (writeLock l k v).1, .int .i64 (writeLock l k v).2]) := by
  refine PureC.of (CallSpec.of_body 34 0 Try.func15 rfl rfl rfl (by simp) ?_) (by simp []) (by simp [])
  refine AWp.seq ?_
  refine W.reg [0, 1, 2] rfl ?_
  refine S.new 3 rfl rfl (.box (lk 0 rfl rfl) rfl) ?_
  refine S.new 6 rfl rfl (.alloc zv23) ?_
  refine S.sil 7 rfl rfl (fun _ => .assign cI) ?_
  refine S.nil ?_
  refine thenQ_n ?_
  refine AWp.seq ?_
  refine AWp.seq ?_
  refine W.reg [0, 1, 2, 3] rfl ?_
  refine S.sil 10 rfl rfl (fun _ => .move (lk 4 rfl rfl)) ?_
  first | refine S.sil 11 rfl rfl (fun _ => .fieldAddr lay23 rfl rfl (lk 3 rfl rfl)) ?_ | refine S.sil 11 rfl rfl (fun _ => .fieldAddrC lay23 rfl rfl (lk 3 rfl rfl) rfl (by first | rfl | simp)) ?_
  first | refine S.qui 12 rfl rfl (fun _ => .load sz3 ag3 (lk 0 rfl rfl) (by first | rfl | simp) rfl rfl (by first | rfl | simp) (by first | rfl | simp)) ?_ | refine S.sil 12 rfl rfl (fun _ => .loadC sz3 ag3 (lk 0 rfl rfl) (by first | rfl | simp) (by first | rfl | simp)) ?_
  refine S.sil 13 rfl rfl (fun _ => .neq (lk 2 rfl rfl) (lk 0 rfl rfl)) ?_
  refine S.nil ?_
  refine thenQ_n ?_
  refine AWp.cond (lk 0 rfl rfl) (fun c0 => ?_) (fun c0 => ?_)
  · try simp only [decide_eq_true_eq, decide_eq_false_iff_not, Bool.not_eq_true', Bool.not_eq_false', Bool.and_eq_true, Bool.or_eq_true, Bool.and_eq_false_iff, Bool.or_eq_false_iff, Bool.not_eq_true, Bool.not_eq_false, ite_eq_left_iff] at c0
    refine AWp.seq ?_
    refine W.reg [0, 1, 2] rfl ?_
    refine S.sil 14 rfl rfl (fun _ => .buildStL lay23 zv23 .nil rfl rfl) ?_
    refine S.effN rfl rfl (.store sz23 (lk 6 rfl rfl) (lk 0 rfl rfl) rfl rfl rfl rfl (by first | rfl | simp) (by first | rfl | simp)) ?_
    refine S.sil 7 rfl rfl (fun _ => .assign cI) ?_
    refine S.nil ?_
    refine thenQ_n ?_
    refine AWp.ret ?_
    refine thenQ_r ?_
    refine endN rfl (.cons (.cell sz23 ag23 (lk 7 rfl rfl) (by first | rfl | simp) rfl rfl (by first | rfl | simp) (by first | rfl | simp)) (.cons (.tmp (lk 0 rfl rfl) rfl) .nil)) rfl (by first | rfl | simp [V.ltL, ]) ?_
    rw [writeLock, if_pos c0]; rfl
  · try simp only [decide_eq_true_eq, decide_eq_false_iff_not, Bool.not_eq_true', Bool.not_eq_false', Bool.and_eq_true, Bool.or_eq_true, Bool.and_eq_false_iff, Bool.or_eq_false_iff, Bool.not_eq_true, Bool.not_eq_false, ite_eq_left_iff] at c0
    refine AWp.skip ?_
    refine thenQ_n ?_
    refine AWp.seq ?_
    refine W.reg [0, 1, 2, 3, 4, 5, 6, 7] rfl ?_
    first | refine S.sil 16 rfl rfl (fun _ => .fieldAddr lay23 rfl rfl (lk 6 rfl rfl)) ?_ | refine S.sil 16 rfl rfl (fun _ => .fieldAddrC lay23 rfl rfl (lk 6 rfl rfl) rfl (by first | rfl | simp)) ?_
    first | refine S.qui 17 rfl rfl (fun _ => .load sz3 ag3 (lk 0 rfl rfl) (by first | rfl | simp) rfl rfl (by first | rfl | simp) (by first | rfl | simp)) ?_ | refine S.sil 17 rfl rfl (fun _ => .loadC sz3 ag3 (lk 0 rfl rfl) (by first | rfl | simp) (by first | rfl | simp)) ?_
    refine S.sil 18 rfl rfl (fun _ => .callQ ent20 cF (.c (lk 0 rfl rfl) (by first | exact V.sub.refl _ | exact V.sub.forget _ _ _ | exact V.sub.nils_no _ | exact V.sub.nils _) (.c cI (by first | exact V.sub.refl _ | exact V.sub.forget _ _ _ | exact V.sub.nils_no _ | exact V.sub.nils _) .nil)) (Add_ok _ _)) ?_
    refine S.sil 15 rfl rfl (fun _ => .move (lk 0 rfl rfl)) ?_
    refine S.sil 19 rfl rfl (fun _ => .extract (lk 0 rfl rfl) rfl) ?_
    refine S.sil 20 rfl rfl (fun _ => .extract (lk 1 rfl rfl) rfl) ?_
    refine S.sil 8 rfl rfl (fun _ => .assign (lk 1 rfl rfl)) ?_
    refine S.sil 9 rfl rfl (fun _ => .assign (lk 1 rfl rfl)) ?_
    refine S.nil ?_
    refine thenQ_n ?_
    refine AWp.seq ?_
    refine AWp.seq ?_
    refine W.reg [0, 1, 2, 3, 4, 5, 6] rfl ?_
    refine S.sil 21 rfl rfl (fun _ => .move (lk 0 rfl rfl)) ?_
    refine S.sil 22 rfl rfl (fun _ => .neq (lk 0 rfl rfl) cI) ?_
    refine S.sil 23 rfl rfl (fun _ => .move (lk 0 rfl rfl)) ?_
    refine S.gsil 24 2 23 false rfl rfl rfl (lk 0 rfl rfl) (fun hB _ => .move (lk 20 rfl rfl)) ?_
    refine S.gsil 25 2 23 false rfl rfl rfl (lk 1 rfl rfl) (fun hB _ => .callQ ent19 cF (.c (ifT hB (lk 0 rfl rfl)) (by first | exact V.sub.refl _ | exact V.sub.forget _ _ _ | exact V.sub.nils_no _ | exact V.sub.nils _) .nil) (Is_ok _)) ?_
    refine S.gsil 26 2 23 false rfl rfl rfl (lk 2 rfl rfl) (fun hB _ => .not (ifT hB (lk 0 rfl rfl))) ?_
    refine S.sil 27 rfl rfl (fun _ => .pickOr (lk 3 rfl rfl) cB (fun h => ifT h (lk 0 rfl rfl))) ?_
    refine S.nil ?_
    refine thenQ_n ?_
    refine AWp.cond (lk 0 rfl rfl) (fun c1 => ?_) (fun c1 => ?_)
    · try simp only [decide_eq_true_eq, decide_eq_false_iff_not, Bool.not_eq_true', Bool.not_eq_false', Bool.and_eq_true, Bool.or_eq_true, Bool.and_eq_false_iff, Bool.or_eq_false_iff, Bool.not_eq_true, Bool.not_eq_false, ite_eq_left_iff] at c1
      refine AWp.seq ?_
      refine W.reg [0, 1, 2] rfl ?_
      refine S.sil 28 rfl rfl (fun _ => .buildStL lay23 zv23 .nil rfl rfl) ?_
      refine S.effN rfl rfl (.store sz23 (lk 21 rfl rfl) (lk 0 rfl rfl) rfl rfl rfl rfl (by first | rfl | simp) (by first | rfl | simp)) ?_
      refine S.sil 7 rfl rfl (fun _ => .assign cI) ?_
      refine S.nil ?_
      refine thenQ_n ?_
      refine AWp.ret ?_
      refine thenQ_r ?_
      refine endN rfl (.cons (.cell sz23 ag23 (lk 22 rfl rfl) (by first | rfl | simp) rfl rfl (by first | rfl | simp) (by first | rfl | simp)) (.cons (.tmp (lk 0 rfl rfl) rfl) .nil)) rfl (by first | rfl | simp [V.ltL, ]) ?_
      have h : ¬ (okAdd l.Ver 1 = true ∧ isN v = true) := by simp [addE] at c1; intro h; simp [h.1, h.2] at c1
      rw [writeLock, if_neg (by simpa using c0), if_neg h]; rfl
    · try simp only [decide_eq_true_eq, decide_eq_false_iff_not, Bool.not_eq_true', Bool.not_eq_false', Bool.and_eq_true, Bool.or_eq_true, Bool.and_eq_false_iff, Bool.or_eq_false_iff, Bool.not_eq_true, Bool.not_eq_false, ite_eq_left_iff] at c1
      refine AWp.skip ?_
      refine thenQ_n ?_
      refine AWp.seq ?_
      refine W.reg [0, 1, 2, 3, 4, 5] rfl ?_
      refine S.sil 29 rfl rfl (fun _ => .move (lk 8 rfl rfl)) ?_
      refine S.sil 30 rfl rfl (fun _ => .move (lk 25 rfl rfl)) ?_
      first | refine S.sil 31 rfl rfl (fun _ => .fieldAddr lay23 rfl rfl (lk 23 rfl rfl)) ?_ | refine S.sil 31 rfl rfl (fun _ => .fieldAddrC lay23 rfl rfl (lk 23 rfl rfl) rfl (by first | rfl | simp)) ?_
      refine S.effN rfl rfl (.store sz3 (lk 0 rfl rfl) (lk 2 rfl rfl) rfl rfl rfl rfl (by first | rfl | simp) (by first | rfl | simp)) ?_
      first | refine S.sil 32 rfl rfl (fun _ => .fieldAddr lay23 rfl rfl (lk 24 rfl rfl)) ?_ | refine S.sil 32 rfl rfl (fun _ => .fieldAddrC lay23 rfl rfl (lk 24 rfl rfl) rfl (by first | rfl | simp)) ?_
      refine S.effN rfl rfl (.store sz3 (lk 0 rfl rfl) (lk 2 rfl rfl) rfl rfl rfl rfl (by first | rfl | simp) (by first | rfl | simp)) ?_
      refine S.nil ?_
      refine thenQ_n ?_
      refine AWp.seq ?_
      refine W.reg [0, 1, 2] rfl ?_
      first | refine S.qui 33 rfl rfl (fun _ => .load sz23 ag23 (lk 25 rfl rfl) (by first | rfl | simp) rfl rfl (by first | rfl | simp) (by first | rfl | simp)) ?_ | refine S.sil 33 rfl rfl (fun _ => .loadC sz23 ag23 (lk 25 rfl rfl) (by first | rfl | simp) (by first | rfl | simp)) ?_
      refine S.effN rfl rfl (.store sz23 (lk 25 rfl rfl) (lk 0 rfl rfl) rfl rfl rfl rfl (by first | rfl | simp) (by first | rfl | simp)) ?_
      refine S.sil 7 rfl rfl (fun _ => .assign cI) ?_
      refine S.nil ?_
      refine thenQ_n ?_
      refine AWp.ret ?_
      refine endN rfl (.cons (.cell sz23 ag23 (lk 26 rfl rfl) (by first | rfl | simp) rfl rfl (by first | rfl | simp) (by first | rfl | simp)) (.cons (.tmp (lk 0 rfl rfl) rfl) .nil)) rfl (by first | rfl | simp [V.ltL, ]) ?_
      have h : okAdd l.Ver 1 = true ∧ isN v = true := by simp [addE] at c1; exact c1
      rw [writeLock, if_neg (by simpa using c0), if_pos h]; simp [addN, h.1, encLock, V.setAt]

theorem Pass_ok (l : Lock) (k to : Int) : PureC Pg 16 [encLock l, .int .i64 k, .int .i64 to] (.tup [encLock (passLock l k to).1, .int .i64 (passLock l k to).2]) := by
  refine PureC.of (CallSpec.of_body 37 0 Try.func16 rfl rfl rfl (by simp) ?_) (by simp []) (by simp [])
  refine AWp.seq ?_
  refine W.reg [0, 1, 2] rfl ?_
  refine S.new 3 rfl rfl (.box (lk 0 rfl rfl) rfl) ?_
  refine S.new 6 rfl rfl (.alloc zv23) ?_
  refine S.sil 7 rfl rfl (fun _ => .assign cI) ?_
  refine S.nil ?_
  refine thenQ_n ?_
  refine AWp.seq ?_
  refine AWp.block ?_
  refine AWp.seq ?_
  refine W.reg [0, 1, 2, 3, 4] rfl ?_
  refine S.sil 11 rfl rfl (fun _ => .move (lk 4 rfl rfl)) ?_
  first | refine S.sil 12 rfl rfl (fun _ => .fieldAddr lay23 rfl rfl (lk 3 rfl rfl)) ?_ | refine S.sil 12 rfl rfl (fun _ => .fieldAddrC lay23 rfl rfl (lk 3 rfl rfl) rfl (by first | rfl | simp)) ?_
  first | refine S.qui 13 rfl rfl (fun _ => .load sz3 ag3 (lk 0 rfl rfl) (by first | rfl | simp) rfl rfl (by first | rfl | simp) (by first | rfl | simp)) ?_ | refine S.sil 13 rfl rfl (fun _ => .loadC sz3 ag3 (lk 0 rfl rfl) (by first | rfl | simp) (by first | rfl | simp)) ?_
  refine S.sil 14 rfl rfl (fun _ => .neq (lk 2 rfl rfl) (lk 0 rfl rfl)) ?_
  refine S.sil 10 rfl rfl (fun _ => .assign (lk 0 rfl rfl)) ?_
  refine S.nil ?_
  refine thenQ_n ?_
  refine AWp.cond (lk 0 rfl rfl) (fun c0 => ?_) (fun c0 => ?_)
  · try simp only [decide_eq_true_eq, decide_eq_false_iff_not, Bool.not_eq_true', Bool.not_eq_false', Bool.and_eq_true, Bool.or_eq_true, Bool.and_eq_false_iff, Bool.or_eq_false_iff, Bool.not_eq_true, Bool.not_eq_false, ite_eq_left_iff] at c0
    refine AWp.seq ?_
    refine W.reg [0, 1, 2] rfl ?_
    refine S.sil 15 rfl rfl (fun _ => .buildStL lay23 zv23 .nil rfl rfl) ?_
    refine S.effN rfl rfl (.store sz23 (lk 7 rfl rfl) (lk 0 rfl rfl) rfl rfl rfl rfl (by first | rfl | simp) (by first | rfl | simp)) ?_
    refine S.sil 7 rfl rfl (fun _ => .assign cI) ?_
    refine S.nil ?_
    refine thenQ_n ?_
    refine AWp.ret ?_
    refine blockQ_r ?_
    refine thenQ_r ?_
    refine endN rfl (.cons (.cell sz23 ag23 (lk 8 rfl rfl) (by first | rfl | simp) rfl rfl (by first | rfl | simp) (by first | rfl | simp)) (.cons (.tmp (lk 0 rfl rfl) rfl) .nil)) rfl (by first | rfl | simp [V.ltL, ]) ?_
    rw [passLock, if_pos c0]; rfl
  · try simp only [decide_eq_true_eq, decide_eq_false_iff_not, Bool.not_eq_true', Bool.not_eq_false', Bool.and_eq_true, Bool.or_eq_true, Bool.and_eq_false_iff, Bool.or_eq_false_iff, Bool.not_eq_true, Bool.not_eq_false, ite_eq_left_iff] at c0
    refine AWp.seq ?_
    refine W.reg [0, 1, 2, 3] rfl ?_
    refine S.sil 17 rfl rfl (fun _ => .move (lk 10 rfl rfl)) ?_
    refine S.sil 18 rfl rfl (fun _ => .callQ ent18 cF (.c (lk 0 rfl rfl) (by first | exact V.sub.refl _ | exact V.sub.forget _ _ _ | exact V.sub.nils_no _ | exact V.sub.nils _) .nil) (lockis_ok _)) ?_
    refine S.sil 19 rfl rfl (fun _ => .not (lk 0 rfl rfl)) ?_
    refine S.sil 16 rfl rfl (fun _ => .assign (lk 0 rfl rfl)) ?_
    refine S.nil ?_
    refine thenQ_n ?_
    refine AWp.cond (lk 0 rfl rfl) (fun c1 => ?_) (fun c1 => ?_)
    · try simp only [decide_eq_true_eq, decide_eq_false_iff_not, Bool.not_eq_true', Bool.not_eq_false', Bool.and_eq_true, Bool.or_eq_true, Bool.and_eq_false_iff, Bool.or_eq_false_iff, Bool.not_eq_true, Bool.not_eq_false, ite_eq_left_iff] at c1
      refine AWp.seq ?_
      refine W.reg [0, 1, 2] rfl ?_
      refine S.sil 20 rfl rfl (fun _ => .buildStL lay23 zv23 .nil rfl rfl) ?_
      refine S.effN rfl rfl (.store sz23 (lk 11 rfl rfl) (lk 0 rfl rfl) rfl rfl rfl rfl (by first | rfl | simp) (by first | rfl | simp)) ?_
      refine S.sil 7 rfl rfl (fun _ => .assign cI) ?_
      refine S.nil ?_
      refine thenQ_n ?_
      refine AWp.ret ?_
      refine blockQ_r ?_
      refine thenQ_r ?_
      refine endN rfl (.cons (.cell sz23 ag23 (lk 12 rfl rfl) (by first | rfl | simp) rfl rfl (by first | rfl | simp) (by first | rfl | simp)) (.cons (.tmp (lk 0 rfl rfl) rfl) .nil)) rfl (by first | rfl | simp [V.ltL, ]) ?_
      rw [passLock, if_neg (by simpa using c0), if_pos c1]; rfl
    · try simp only [decide_eq_true_eq, decide_eq_false_iff_not, Bool.not_eq_true', Bool.not_eq_false', Bool.and_eq_true, Bool.or_eq_true, Bool.and_eq_false_iff, Bool.or_eq_false_iff, Bool.not_eq_true, Bool.not_eq_false, ite_eq_left_iff] at c1
      refine AWp.skip ?_
      refine blockQ_n ?_
      refine thenQ_n ?_
      refine AWp.seq ?_
      refine W.reg [0, 1, 2, 3, 4, 5, 6, 7] rfl ?_
      first | refine S.sil 22 rfl rfl (fun _ => .fieldAddr lay23 rfl rfl (lk 11 rfl rfl)) ?_ | refine S.sil 22 rfl rfl (fun _ => .fieldAddrC lay23 rfl rfl (lk 11 rfl rfl) rfl (by first | rfl | simp)) ?_
      first | refine S.qui 23 rfl rfl (fun _ => .load sz3 ag3 (lk 0 rfl rfl) (by first | rfl | simp) rfl rfl (by first | rfl | simp) (by first | rfl | simp)) ?_ | refine S.sil 23 rfl rfl (fun _ => .loadC sz3 ag3 (lk 0 rfl rfl) (by first | rfl | simp) (by first | rfl | simp)) ?_
      refine S.sil 24 rfl rfl (fun _ => .callQ ent20 cF (.c (lk 0 rfl rfl) (by first | exact V.sub.refl _ | exact V.sub.forget _ _ _ | exact V.sub.nils_no _ | exact V.sub.nils _) (.c cI (by first | exact V.sub.refl _ | exact V.sub.forget _ _ _ | exact V.sub.nils_no _ | exact V.sub.nils _) .nil)) (Add_ok _ _)) ?_
      refine S.sil 21 rfl rfl (fun _ => .move (lk 0 rfl rfl)) ?_
      refine S.sil 25 rfl rfl (fun _ => .extract (lk 0 rfl rfl) rfl) ?_
      refine S.sil 26 rfl rfl (fun _ => .extract (lk 1 rfl rfl) rfl) ?_
      refine S.sil 8 rfl rfl (fun _ => .assign (lk 1 rfl rfl)) ?_
      refine S.sil 9 rfl rfl (fun _ => .assign (lk 1 rfl rfl)) ?_
      refine S.nil ?_
      refine thenQ_n ?_
      refine AWp.seq ?_
      refine AWp.seq ?_
      refine W.reg [0, 1] rfl ?_
      refine S.sil 27 rfl rfl (fun _ => .move (lk 0 rfl rfl)) ?_
      refine S.sil 28 rfl rfl (fun _ => .neq (lk 0 rfl rfl) cI) ?_
      refine S.nil ?_
      refine thenQ_n ?_
      refine AWp.cond (lk 0 rfl rfl) (fun c2 => ?_) (fun c2 => ?_)
      · try simp only [decide_eq_true_eq, decide_eq_false_iff_not, Bool.not_eq_true', Bool.not_eq_false', Bool.and_eq_true, Bool.or_eq_true, Bool.and_eq_false_iff, Bool.or_eq_false_iff, Bool.not_eq_true, Bool.not_eq_false, ite_eq_left_iff] at c2
        refine AWp.seq ?_
        refine W.reg [0, 1, 2, 3] rfl ?_
        refine S.sil 29 rfl rfl (fun _ => .buildStL lay23 zv23 .nil rfl rfl) ?_
        refine S.sil 30 rfl rfl (fun _ => .move (lk 3 rfl rfl)) ?_
        refine S.effN rfl rfl (.store sz23 (lk 22 rfl rfl) (lk 1 rfl rfl) rfl rfl rfl rfl (by first | rfl | simp) (by first | rfl | simp)) ?_
        refine S.sil 7 rfl rfl (fun _ => .assign (lk 0 rfl rfl)) ?_
        refine S.nil ?_
        refine thenQ_n ?_
        refine AWp.ret ?_
        refine thenQ_r ?_
        refine endN rfl (.cons (.cell sz23 ag23 (lk 23 rfl rfl) (by first | rfl | simp) rfl rfl (by first | rfl | simp) (by first | rfl | simp)) (.cons (.tmp (lk 0 rfl rfl) rfl) .nil)) rfl (by first | rfl | simp [V.ltL, ]) ?_
        have h : ¬ okAdd l.Seq 1 = true := by intro h; simp [addE, h] at c2
        rw [passLock, if_neg (by simpa using c0), if_neg (by simpa using c1), if_neg h]; simp [addE, h]; rfl
      · try simp only [decide_eq_true_eq, decide_eq_false_iff_not, Bool.not_eq_true', Bool.not_eq_false', Bool.and_eq_true, Bool.or_eq_true, Bool.and_eq_false_iff, Bool.or_eq_false_iff, Bool.not_eq_true, Bool.not_eq_false, ite_eq_left_iff] at c2
        refine AWp.skip ?_
        refine thenQ_n ?_
        refine AWp.seq ?_
        refine W.reg [0, 1, 2, 3, 4, 5, 6, 7] rfl ?_
        refine S.sil 31 rfl rfl (fun _ => .move (lk 3 rfl rfl)) ?_
        refine S.sil 32 rfl rfl (fun _ => .move (lk 25 rfl rfl)) ?_
        first | refine S.sil 33 rfl rfl (fun _ => .fieldAddr lay23 rfl rfl (lk 23 rfl rfl)) ?_ | refine S.sil 33 rfl rfl (fun _ => .fieldAddrC lay23 rfl rfl (lk 23 rfl rfl) rfl (by first | rfl | simp)) ?_
        refine S.effN rfl rfl (.store sz3 (lk 0 rfl rfl) (lk 2 rfl rfl) rfl rfl rfl rfl (by first | rfl | simp) (by first | rfl | simp)) ?_
        first | refine S.sil 34 rfl rfl (fun _ => .fieldAddr lay23 rfl rfl (lk 24 rfl rfl)) ?_ | refine S.sil 34 rfl rfl (fun _ => .fieldAddrC lay23 rfl rfl (lk 24 rfl rfl) rfl (by first | rfl | simp)) ?_
        refine S.effN rfl rfl (.store sz3 (lk 0 rfl rfl) cI rfl rfl rfl rfl (by first | rfl | simp) (by first | rfl | simp)) ?_
        first | refine S.sil 35 rfl rfl (fun _ => .fieldAddr lay23 rfl rfl (lk 25 rfl rfl)) ?_ | refine S.sil 35 rfl rfl (fun _ => .fieldAddrC lay23 rfl rfl (lk 25 rfl rfl) rfl (by first | rfl | simp)) ?_
        refine S.effN rfl rfl (.store sz3 (lk 0 rfl rfl) (lk 3 rfl rfl) rfl rfl rfl rfl (by first | rfl | simp) (by first | rfl | simp)) ?_
        refine S.nil ?_
        refine thenQ_n ?_
        refine AWp.seq ?_
        refine W.reg [0, 1, 2] rfl ?_
        first | refine S.qui 36 rfl rfl (fun _ => .load sz23 ag23 (lk 26 rfl rfl) (by first | rfl | simp) rfl rfl (by first | rfl | simp) (by first | rfl | simp)) ?_ | refine S.sil 36 rfl rfl (fun _ => .loadC sz23 ag23 (lk 26 rfl rfl) (by first | rfl | simp) (by first | rfl | simp)) ?_
        refine S.effN rfl rfl (.store sz23 (lk 26 rfl rfl) (lk 0 rfl rfl) rfl rfl rfl rfl (by first | rfl | simp) (by first | rfl | simp)) ?_
        refine S.sil 7 rfl rfl (fun _ => .assign cI) ?_
        refine S.nil ?_
        refine thenQ_n ?_
        refine AWp.ret ?_
        refine endN rfl (.cons (.cell sz23 ag23 (lk 27 rfl rfl) (by first | rfl | simp) rfl rfl (by first | rfl | simp) (by first | rfl | simp)) (.cons (.tmp (lk 0 rfl rfl) rfl) .nil)) rfl (by first | rfl | simp [V.ltL, ]) ?_
        have h : okAdd l.Seq 1 = true := by simpa [addE] using c2
        rw [passLock, if_neg (by simpa using c0), if_neg (by simpa using c1), if_pos h]; simp [addN, h, encLock, V.setAt]

theorem Right1_ok (n : Int) : PureC Pg 21 [.int .i64 n] (.bool (decide (0 ≤ n) && isN n)) := by
  refine PureC.of (CallSpec.of_body 9 0 Try.func21 rfl rfl rfl (by simp) ?_) (by simp []) (by simp [])
  refine AWp.seq ?_
  refine W.reg [0] rfl ?_
  refine S.sil 2 rfl rfl (fun _ => .assign cB) ?_
  refine S.nil ?_
  refine thenQ_n ?_
  refine AWp.seq ?_
  refine W.reg [0, 1, 2, 3, 4, 5, 6] rfl ?_
  refine S.sil 3 rfl rfl (fun _ => .move (lk 1 rfl rfl)) ?_
  refine S.sil 4 rfl rfl (fun _ => .geq (lk 0 rfl rfl) cI) ?_
  refine S.sil 5 rfl rfl (fun _ => .move (lk 0 rfl rfl)) ?_
  refine S.gsil 6 2 5 true rfl rfl rfl (lk 0 rfl rfl) (fun hB _ => .move (lk 4 rfl rfl)) ?_
  refine S.gsil 7 2 5 true rfl rfl rfl (lk 1 rfl rfl) (fun hB _ => .callQ ent19 cF (.c (ifT hB (lk 0 rfl rfl)) (by first | exact V.sub.refl _ | exact V.sub.forget _ _ _ | exact V.sub.nils_no _ | exact V.sub.nils _) .nil) (Is_ok _)) ?_
  refine S.sil 8 rfl rfl (fun _ => .pickAnd (lk 2 rfl rfl) (fun h => ifT h (lk 0 rfl rfl)) cB) ?_
  refine S.sil 2 rfl rfl (fun _ => .assign (lk 0 rfl rfl)) ?_
  refine S.nil ?_
  refine thenQ_n ?_
  refine AWp.ret ?_
  refine end1 rfl (lk 0 rfl rfl) rfl (by first | rfl | simp []) ?_
  rfl

theorem Right_ok (l : Lock) : PureC Pg 17 [encLock l] (.bool (rightLock l)) := by
  refine PureC.of (CallSpec.of_body 24 0 Try.func17 rfl rfl rfl (by simp) ?_) (by simp []) (by simp [])
  refine AWp.seq ?_
  refine W.reg [0, 1] rfl ?_
  refine S.new 1 rfl rfl (.box (lk 0 rfl rfl) rfl) ?_
  refine S.sil 2 rfl rfl (fun _ => .assign cB) ?_
  refine S.nil ?_
  refine thenQ_n ?_
  refine AWp.seq ?_
  refine W.reg [0] rfl ?_
  refine S.sil 3 rfl rfl (fun _ => .assign cF) ?_
  refine S.nil ?_
  refine thenQ_n ?_
  refine AWp.seq ?_
  refine W.reg [0, 1, 2, 3, 4, 5, 6, 7, 8, 9, 10, 11, 12, 13, 14, 15, 16, 17, 18, 19, 20] rfl ?_
  refine S.sil 4 rfl rfl (fun _ => .move (lk 0 rfl rfl)) ?_
  first | refine S.sil 5 rfl rfl (fun _ => .fieldAddr lay23 rfl rfl (lk 3 rfl rfl)) ?_ | refine S.sil 5 rfl rfl (fun _ => .fieldAddrC lay23 rfl rfl (lk 3 rfl rfl) rfl (by first | rfl | simp)) ?_
  first | refine S.qui 6 rfl rfl (fun _ => .load sz3 ag3 (lk 0 rfl rfl) (by first | rfl | simp) rfl rfl (by first | rfl | simp) (by first | rfl | simp)) ?_ | refine S.sil 6 rfl rfl (fun _ => .loadC sz3 ag3 (lk 0 rfl rfl) (by first | rfl | simp) (by first | rfl | simp)) ?_
  refine S.sil 7 rfl rfl (fun _ => .callQ ent21 (lk 2 rfl rfl) (.c (lk 0 rfl rfl) (by first | exact V.sub.refl _ | exact V.sub.forget _ _ _ | exact V.sub.nils_no _ | exact V.sub.nils _) .nil) (Right1_ok _)) ?_
  refine S.sil 8 rfl rfl (fun _ => .move (lk 0 rfl rfl)) ?_
  refine S.gsil 9 4 8 true rfl rfl rfl (lk 0 rfl rfl) (fun hB _ => .move (lk 5 rfl rfl)) ?_
  first | refine S.gsil 10 4 8 true rfl rfl rfl (lk 1 rfl rfl) (fun hB _ => .fieldAddr lay23 rfl rfl (lk 8 rfl rfl)) ?_ | refine S.gsil 10 4 8 true rfl rfl rfl (lk 1 rfl rfl) (fun hB _ => .fieldAddrC lay23 rfl rfl (lk 8 rfl rfl) rfl (by first | rfl | simp)) ?_
  first | refine S.gqui 11 4 8 true rfl rfl rfl (lk 2 rfl rfl) (fun hB _ => .load sz3 ag3 (ifT hB (lk 0 rfl rfl)) (by first | rfl | simp) rfl rfl (by first | rfl | simp) (by first | rfl | simp)) ?_ | refine S.gsil 11 4 8 true rfl rfl rfl (lk 2 rfl rfl) (fun hB _ => .loadC sz3 ag3 (ifT hB (lk 0 rfl rfl)) (by first | rfl | simp) (by first | rfl | simp)) ?_
  refine S.gsil 12 4 8 true rfl rfl rfl (lk 3 rfl rfl) (fun hB _ => .callQ ent21 (ifT hB (lk 2 rfl rfl)) (.c (ifT hB (lk 0 rfl rfl)) (by first | exact V.sub.refl _ | exact V.sub.forget _ _ _ | exact V.sub.nils_no _ | exact V.sub.nils _) .nil) (Right1_ok _)) ?_
  refine S.sil 13 rfl rfl (fun _ => .pickAnd (lk 4 rfl rfl) (fun h => ifT h (lk 0 rfl rfl)) cB) ?_
  refine S.sil 14 rfl rfl (fun _ => .move (lk 0 rfl rfl)) ?_
  first | refine S.gsil 15 10 14 true rfl rfl rfl (lk 0 rfl rfl) (fun hB _ => .fieldAddr lay23 rfl rfl (lk 13 rfl rfl)) ?_ | refine S.gsil 15 10 14 true rfl rfl rfl (lk 0 rfl rfl) (fun hB _ => .fieldAddrC lay23 rfl rfl (lk 13 rfl rfl) rfl (by first | rfl | simp)) ?_
  first | refine S.gqui 16 10 14 true rfl rfl rfl (lk 1 rfl rfl) (fun hB _ => .load sz3 ag3 (ifT hB (lk 0 rfl rfl)) (by first | rfl | simp) rfl rfl (by first | rfl | simp) (by first | rfl | simp)) ?_ | refine S.gsil 16 10 14 true rfl rfl rfl (lk 1 rfl rfl) (fun hB _ => .loadC sz3 ag3 (ifT hB (lk 0 rfl rfl)) (by first | rfl | simp) (by first | rfl | simp)) ?_
  refine S.gsil 17 10 14 true rfl rfl rfl (lk 2 rfl rfl) (fun hB _ => .callQ ent18 cF (.c (ifT hB (lk 0 rfl rfl)) (by first | exact V.sub.refl _ | exact V.sub.forget _ _ _ | exact V.sub.nils_no _ | exact V.sub.nils _) .nil) (lockis_ok _)) ?_
  refine S.sil 18 rfl rfl (fun _ => .pickAnd (lk 3 rfl rfl) (fun h => ifT h (lk 0 rfl rfl)) cB) ?_
  refine S.sil 19 rfl rfl (fun _ => .move (lk 0 rfl rfl)) ?_
  first | refine S.gsil 20 15 19 true rfl rfl rfl (lk 0 rfl rfl) (fun hB _ => .fieldAddr lay23 rfl rfl (lk 18 rfl rfl)) ?_ | refine S.gsil 20 15 19 true rfl rfl rfl (lk 0 rfl rfl) (fun hB _ => .fieldAddrC lay23 rfl rfl (lk 18 rfl rfl) rfl (by first | rfl | simp)) ?_
  first | refine S.gqui 21 15 19 true rfl rfl rfl (lk 1 rfl rfl) (fun hB _ => .load sz3 ag3 (ifT hB (lk 0 rfl rfl)) (by first | rfl | simp) rfl rfl (by first | rfl | simp) (by first | rfl | simp)) ?_ | refine S.gsil 21 15 19 true rfl rfl rfl (lk 1 rfl rfl) (fun hB _ => .loadC sz3 ag3 (ifT hB (lk 0 rfl rfl)) (by first | rfl | simp) (by first | rfl | simp)) ?_
  refine S.gsil 22 15 19 true rfl rfl rfl (lk 2 rfl rfl) (fun hB _ => .callQ ent19 cF (.c (ifT hB (lk 0 rfl rfl)) (by first | exact V.sub.refl _ | exact V.sub.forget _ _ _ | exact V.sub.nils_no _ | exact V.sub.nils _) .nil) (Is_ok _)) ?_
  refine S.sil 23 rfl rfl (fun _ => .pickAnd (lk 3 rfl rfl) (fun h => ifT h (lk 0 rfl rfl)) cB) ?_
  refine S.sil 2 rfl rfl (fun _ => .assign (lk 0 rfl rfl)) ?_
  refine S.nil ?_
  refine thenQ_n ?_
  refine AWp.ret ?_
  refine end1 rfl (lk 0 rfl rfl) rfl (by first | rfl | simp []) ?_
  rfl

theorem Join_ok (a b : Lock) : PureC Pg 11 [encLock a, encLock b] (encLock (joinLock a b)) := by
  refine PureC.of (CallSpec.of_body 11 0 Try.func11 rfl rfl rfl (by simp) ?_) (by simp []) (by simp [])
  refine AWp.seq ?_
  refine W.reg [0, 1, 2] rfl ?_
  refine S.new 2 rfl rfl (.box (lk 0 rfl rfl) rfl) ?_
  refine S.new 3 rfl rfl (.box (lk 2 rfl rfl) rfl) ?_
  refine S.new 4 rfl rfl (.alloc zv23) ?_
  refine S.nil ?_
  refine thenQ_n ?_
  refine AWp.seq ?_
  refine AWp.seq ?_
  refine W.reg [0, 1, 2, 3] rfl ?_
  first | refine S.qui 5 rfl rfl (fun _ => .load sz23 ag23 (lk 2 rfl rfl) (by first | rfl | simp) rfl rfl (by first | rfl | simp) (by first | rfl | simp)) ?_ | refine S.sil 5 rfl rfl (fun _ => .loadC sz23 ag23 (lk 2 rfl rfl) (by first | rfl | simp) (by first | rfl | simp)) ?_
  first | refine S.qui 6 rfl rfl (fun _ => .load sz23 ag23 (lk 2 rfl rfl) (by first | rfl | simp) rfl rfl (by first | rfl | simp) (by first | rfl | simp)) ?_ | refine S.sil 6 rfl rfl (fun _ => .loadC sz23 ag23 (lk 2 rfl rfl) (by first | rfl | simp) (by first | rfl | simp)) ?_
  refine S.sil 7 rfl rfl (fun _ => .callQ ent9 cF (.c (lk 1 rfl rfl) (by first | exact V.sub.refl _ | exact V.sub.forget _ _ _ | exact V.sub.nils_no _ | exact V.sub.nils _) (.c (lk 0 rfl rfl) (by first | exact V.sub.refl _ | exact V.sub.forget _ _ _ | exact V.sub.nils_no _ | exact V.sub.nils _) .nil)) (Compare_ok _ _)) ?_
  refine S.sil 8 rfl rfl (fun _ => .lss (lk 0 rfl rfl) cI) ?_
  refine S.nil ?_
  refine thenQ_n ?_
  refine AWp.cond (lk 0 rfl rfl) (fun c0 => ?_) (fun c0 => ?_)
  · try simp only [decide_eq_true_eq, decide_eq_false_iff_not, Bool.not_eq_true', Bool.not_eq_false', Bool.and_eq_true, Bool.or_eq_true, Bool.and_eq_false_iff, Bool.or_eq_false_iff, Bool.not_eq_true, Bool.not_eq_false, ite_eq_left_iff] at c0
    refine AWp.seq ?_
    refine W.reg [0, 1] rfl ?_
    first | refine S.qui 9 rfl rfl (fun _ => .load sz23 ag23 (lk 5 rfl rfl) (by first | rfl | simp) rfl rfl (by first | rfl | simp) (by first | rfl | simp)) ?_ | refine S.sil 9 rfl rfl (fun _ => .loadC sz23 ag23 (lk 5 rfl rfl) (by first | rfl | simp) (by first | rfl | simp)) ?_
    refine S.effN rfl rfl (.store sz23 (lk 5 rfl rfl) (lk 0 rfl rfl) rfl rfl rfl rfl (by first | rfl | simp) (by first | rfl | simp)) ?_
    refine S.nil ?_
    refine thenQ_n ?_
    refine AWp.ret ?_
    refine thenQ_r ?_
    refine end1c rfl (.cell sz23 ag23 (lk 5 rfl rfl) (by first | rfl | simp) rfl rfl (by first | rfl | simp) (by first | rfl | simp)) (by first | rfl | simp []) ?_
    rw [joinLock, if_pos c0]; rfl
  · try simp only [decide_eq_true_eq, decide_eq_false_iff_not, Bool.not_eq_true', Bool.not_eq_false', Bool.and_eq_true, Bool.or_eq_true, Bool.and_eq_false_iff, Bool.or_eq_false_iff, Bool.not_eq_true, Bool.not_eq_false, ite_eq_left_iff] at c0
    refine AWp.skip ?_
    refine thenQ_n ?_
    refine AWp.seq ?_
    refine W.reg [0, 1] rfl ?_
    first | refine S.qui 10 rfl rfl (fun _ => .load sz23 ag23 (lk 6 rfl rfl) (by first | rfl | simp) rfl rfl (by first | rfl | simp) (by first | rfl | simp)) ?_ | refine S.sil 10 rfl rfl (fun _ => .loadC sz23 ag23 (lk 6 rfl rfl) (by first | rfl | simp) (by first | rfl | simp)) ?_
    refine S.effN rfl rfl (.store sz23 (lk 5 rfl rfl) (lk 0 rfl rfl) rfl rfl rfl rfl (by first | rfl | simp) (by first | rfl | simp)) ?_
    refine S.nil ?_
    refine thenQ_n ?_
    refine AWp.ret ?_
    refine end1c rfl (.cell sz23 ag23 (lk 5 rfl rfl) (by first | rfl | simp) rfl rfl (by first | rfl | simp) (by first | rfl | simp)) (by first | rfl | simp []) ?_
    rw [joinLock, if_neg (by omega)]; rfl

theorem rBehind_ok (a b : Lock) : PureC Pg 13 [encLock a, encLock b] (.bool (behindLock a b)) := by
  refine PureC.of (CallSpec.of_body 40 0 Try.func13 rfl rfl rfl (by simp) ?_) (by simp []) (by simp [])
  refine AWp.seq ?_
  refine W.reg [0, 1, 2] rfl ?_
  refine S.new 2 rfl rfl (.box (lk 0 rfl rfl) rfl) ?_
  refine S.new 3 rfl rfl (.box (lk 2 rfl rfl) rfl) ?_
  refine S.sil 4 rfl rfl (fun _ => .assign cB) ?_
  refine S.nil ?_
  refine thenQ_n ?_
  refine AWp.seq ?_
  refine AWp.seq ?_
  refine W.reg [0, 1, 2, 3, 4] rfl ?_
  first | refine S.sil 5 rfl rfl (fun _ => .fieldAddr lay23 rfl rfl (lk 2 rfl rfl)) ?_ | refine S.sil 5 rfl rfl (fun _ => .fieldAddrC lay23 rfl rfl (lk 2 rfl rfl) rfl (by first | rfl | simp)) ?_
  first | refine S.qui 6 rfl rfl (fun _ => .load sz3 ag3 (lk 0 rfl rfl) (by first | rfl | simp) rfl rfl (by first | rfl | simp) (by first | rfl | simp)) ?_ | refine S.sil 6 rfl rfl (fun _ => .loadC sz3 ag3 (lk 0 rfl rfl) (by first | rfl | simp) (by first | rfl | simp)) ?_
  first | refine S.sil 7 rfl rfl (fun _ => .fieldAddr lay23 rfl rfl (lk 3 rfl rfl)) ?_ | refine S.sil 7 rfl rfl (fun _ => .fieldAddrC lay23 rfl rfl (lk 3 rfl rfl) rfl (by first | rfl | simp)) ?_
  first | refine S.qui 8 rfl rfl (fun _ => .load sz3 ag3 (lk 0 rfl rfl) (by first | rfl | simp) rfl rfl (by first | rfl | simp) (by first | rfl | simp)) ?_ | refine S.sil 8 rfl rfl (fun _ => .loadC sz3 ag3 (lk 0 rfl rfl) (by first | rfl | simp) (by first | rfl | simp)) ?_
  refine S.sil 9 rfl rfl (fun _ => .neq (lk 2 rfl rfl) (lk 0 rfl rfl)) ?_
  refine S.nil ?_
  refine thenQ_n ?_
  refine AWp.cond (lk 0 rfl rfl) (fun c0 => ?_) (fun c0 => ?_)
  · try simp only [decide_eq_true_eq, decide_eq_false_iff_not, Bool.not_eq_true', Bool.not_eq_false', Bool.and_eq_true, Bool.or_eq_true, Bool.and_eq_false_iff, Bool.or_eq_false_iff, Bool.not_eq_true, Bool.not_eq_false, ite_eq_left_iff] at c0
    refine AWp.seq ?_
    refine W.reg [0, 1, 2, 3, 4, 5] rfl ?_
    first | refine S.sil 10 rfl rfl (fun _ => .fieldAddr lay23 rfl rfl (lk 7 rfl rfl)) ?_ | refine S.sil 10 rfl rfl (fun _ => .fieldAddrC lay23 rfl rfl (lk 7 rfl rfl) rfl (by first | rfl | simp)) ?_
    first | refine S.qui 11 rfl rfl (fun _ => .load sz3 ag3 (lk 0 rfl rfl) (by first | rfl | simp) rfl rfl (by first | rfl | simp) (by first | rfl | simp)) ?_ | refine S.sil 11 rfl rfl (fun _ => .loadC sz3 ag3 (lk 0 rfl rfl) (by first | rfl | simp) (by first | rfl | simp)) ?_
    first | refine S.sil 12 rfl rfl (fun _ => .fieldAddr lay23 rfl rfl (lk 8 rfl rfl)) ?_ | refine S.sil 12 rfl rfl (fun _ => .fieldAddrC lay23 rfl rfl (lk 8 rfl rfl) rfl (by first | rfl | simp)) ?_
    first | refine S.qui 13 rfl rfl (fun _ => .load sz3 ag3 (lk 0 rfl rfl) (by first | rfl | simp) rfl rfl (by first | rfl | simp) (by first | rfl | simp)) ?_ | refine S.sil 13 rfl rfl (fun _ => .loadC sz3 ag3 (lk 0 rfl rfl) (by first | rfl | simp) (by first | rfl | simp)) ?_
    refine S.sil 14 rfl rfl (fun _ => .gtr (lk 2 rfl rfl) (lk 0 rfl rfl)) ?_
    refine S.sil 4 rfl rfl (fun _ => .assign (lk 0 rfl rfl)) ?_
    refine S.nil ?_
    refine thenQ_n ?_
    refine AWp.ret ?_
    refine thenQ_r ?_
    refine end1 rfl (lk 0 rfl rfl) rfl (by first | rfl | simp []) ?_
    rw [behindLock, if_pos c0]
  · try simp only [decide_eq_true_eq, decide_eq_false_iff_not, Bool.not_eq_true', Bool.not_eq_false', Bool.and_eq_true, Bool.or_eq_true, Bool.and_eq_false_iff, Bool.or_eq_false_iff, Bool.not_eq_true, Bool.not_eq_false, ite_eq_left_iff] at c0
    refine AWp.skip ?_
    refine thenQ_n ?_
    refine AWp.seq ?_
    refine AWp.seq ?_
    refine W.reg [0, 1, 2, 3, 4] rfl ?_
    first | refine S.sil 15 rfl rfl (fun _ => .fieldAddr lay23 rfl rfl (lk 7 rfl rfl)) ?_ | refine S.sil 15 rfl rfl (fun _ => .fieldAddrC lay23 rfl rfl (lk 7 rfl rfl) rfl (by first | rfl | simp)) ?_
    first | refine S.qui 16 rfl rfl (fun _ => .load sz3 ag3 (lk 0 rfl rfl) (by first | rfl | simp) rfl rfl (by first | rfl | simp) (by first | rfl | simp)) ?_ | refine S.sil 16 rfl rfl (fun _ => .loadC sz3 ag3 (lk 0 rfl rfl) (by first | rfl | simp) (by first | rfl | simp)) ?_
    first | refine S.sil 17 rfl rfl (fun _ => .fieldAddr lay23 rfl rfl (lk 8 rfl rfl)) ?_ | refine S.sil 17 rfl rfl (fun _ => .fieldAddrC lay23 rfl rfl (lk 8 rfl rfl) rfl (by first | rfl | simp)) ?_
    first | refine S.qui 18 rfl rfl (fun _ => .load sz3 ag3 (lk 0 rfl rfl) (by first | rfl | simp) rfl rfl (by first | rfl | simp) (by first | rfl | simp)) ?_ | refine S.sil 18 rfl rfl (fun _ => .loadC sz3 ag3 (lk 0 rfl rfl) (by first | rfl | simp) (by first | rfl | simp)) ?_
    refine S.sil 19 rfl rfl (fun _ => .neq (lk 2 rfl rfl) (lk 0 rfl rfl)) ?_
    refine S.nil ?_
    refine thenQ_n ?_
    refine AWp.cond (lk 0 rfl rfl) (fun c1 => ?_) (fun c1 => ?_)
    · try simp only [decide_eq_true_eq, decide_eq_false_iff_not, Bool.not_eq_true', Bool.not_eq_false', Bool.and_eq_true, Bool.or_eq_true, Bool.and_eq_false_iff, Bool.or_eq_false_iff, Bool.not_eq_true, Bool.not_eq_false, ite_eq_left_iff] at c1
      refine AWp.seq ?_
      refine W.reg [0, 1, 2, 3, 4, 5] rfl ?_
      first | refine S.sil 20 rfl rfl (fun _ => .fieldAddr lay23 rfl rfl (lk 12 rfl rfl)) ?_ | refine S.sil 20 rfl rfl (fun _ => .fieldAddrC lay23 rfl rfl (lk 12 rfl rfl) rfl (by first | rfl | simp)) ?_
      first | refine S.qui 21 rfl rfl (fun _ => .load sz3 ag3 (lk 0 rfl rfl) (by first | rfl | simp) rfl rfl (by first | rfl | simp) (by first | rfl | simp)) ?_ | refine S.sil 21 rfl rfl (fun _ => .loadC sz3 ag3 (lk 0 rfl rfl) (by first | rfl | simp) (by first | rfl | simp)) ?_
      first | refine S.sil 22 rfl rfl (fun _ => .fieldAddr lay23 rfl rfl (lk 13 rfl rfl)) ?_ | refine S.sil 22 rfl rfl (fun _ => .fieldAddrC lay23 rfl rfl (lk 13 rfl rfl) rfl (by first | rfl | simp)) ?_
      first | refine S.qui 23 rfl rfl (fun _ => .load sz3 ag3 (lk 0 rfl rfl) (by first | rfl | simp) rfl rfl (by first | rfl | simp) (by first | rfl | simp)) ?_ | refine S.sil 23 rfl rfl (fun _ => .loadC sz3 ag3 (lk 0 rfl rfl) (by first | rfl | simp) (by first | rfl | simp)) ?_
      refine S.sil 24 rfl rfl (fun _ => .gtr (lk 2 rfl rfl) (lk 0 rfl rfl)) ?_
      refine S.sil 4 rfl rfl (fun _ => .assign (lk 0 rfl rfl)) ?_
      refine S.nil ?_
      refine thenQ_n ?_
      refine AWp.ret ?_
      refine thenQ_r ?_
      refine end1 rfl (lk 0 rfl rfl) rfl (by first | rfl | simp []) ?_
      rw [behindLock, if_neg (by simpa using c0), if_pos c1]
    · try simp only [decide_eq_true_eq, decide_eq_false_iff_not, Bool.not_eq_true', Bool.not_eq_false', Bool.and_eq_true, Bool.or_eq_true, Bool.and_eq_false_iff, Bool.or_eq_false_iff, Bool.not_eq_true, Bool.not_eq_false, ite_eq_left_iff] at c1
      refine AWp.skip ?_
      refine thenQ_n ?_
      refine AWp.seq ?_
      refine AWp.seq ?_
      refine W.reg [0, 1, 2, 3, 4] rfl ?_
      first | refine S.sil 25 rfl rfl (fun _ => .fieldAddr lay23 rfl rfl (lk 12 rfl rfl)) ?_ | refine S.sil 25 rfl rfl (fun _ => .fieldAddrC lay23 rfl rfl (lk 12 rfl rfl) rfl (by first | rfl | simp)) ?_
      first | refine S.qui 26 rfl rfl (fun _ => .load sz3 ag3 (lk 0 rfl rfl) (by first | rfl | simp) rfl rfl (by first | rfl | simp) (by first | rfl | simp)) ?_ | refine S.sil 26 rfl rfl (fun _ => .loadC sz3 ag3 (lk 0 rfl rfl) (by first | rfl | simp) (by first | rfl | simp)) ?_
      first | refine S.sil 27 rfl rfl (fun _ => .fieldAddr lay23 rfl rfl (lk 13 rfl rfl)) ?_ | refine S.sil 27 rfl rfl (fun _ => .fieldAddrC lay23 rfl rfl (lk 13 rfl rfl) rfl (by first | rfl | simp)) ?_
      first | refine S.qui 28 rfl rfl (fun _ => .load sz3 ag3 (lk 0 rfl rfl) (by first | rfl | simp) rfl rfl (by first | rfl | simp) (by first | rfl | simp)) ?_ | refine S.sil 28 rfl rfl (fun _ => .loadC sz3 ag3 (lk 0 rfl rfl) (by first | rfl | simp) (by first | rfl | simp)) ?_
      refine S.sil 29 rfl rfl (fun _ => .neq (lk 2 rfl rfl) (lk 0 rfl rfl)) ?_
      refine S.nil ?_
      refine thenQ_n ?_
      refine AWp.cond (lk 0 rfl rfl) (fun c2 => ?_) (fun c2 => ?_)
      · try simp only [decide_eq_true_eq, decide_eq_false_iff_not, Bool.not_eq_true', Bool.not_eq_false', Bool.and_eq_true, Bool.or_eq_true, Bool.and_eq_false_iff, Bool.or_eq_false_iff, Bool.not_eq_true, Bool.not_eq_false, ite_eq_left_iff] at c2
        refine AWp.seq ?_
        refine W.reg [0, 1, 2, 3, 4, 5] rfl ?_
        first | refine S.sil 30 rfl rfl (fun _ => .fieldAddr lay23 rfl rfl (lk 17 rfl rfl)) ?_ | refine S.sil 30 rfl rfl (fun _ => .fieldAddrC lay23 rfl rfl (lk 17 rfl rfl) rfl (by first | rfl | simp)) ?_
        first | refine S.qui 31 rfl rfl (fun _ => .load sz3 ag3 (lk 0 rfl rfl) (by first | rfl | simp) rfl rfl (by first | rfl | simp) (by first | rfl | simp)) ?_ | refine S.sil 31 rfl rfl (fun _ => .loadC sz3 ag3 (lk 0 rfl rfl) (by first | rfl | simp) (by first | rfl | simp)) ?_
        first | refine S.sil 32 rfl rfl (fun _ => .fieldAddr lay23 rfl rfl (lk 18 rfl rfl)) ?_ | refine S.sil 32 rfl rfl (fun _ => .fieldAddrC lay23 rfl rfl (lk 18 rfl rfl) rfl (by first | rfl | simp)) ?_
        first | refine S.qui 33 rfl rfl (fun _ => .load sz3 ag3 (lk 0 rfl rfl) (by first | rfl | simp) rfl rfl (by first | rfl | simp) (by first | rfl | simp)) ?_ | refine S.sil 33 rfl rfl (fun _ => .loadC sz3 ag3 (lk 0 rfl rfl) (by first | rfl | simp) (by first | rfl | simp)) ?_
        refine S.sil 34 rfl rfl (fun _ => .gtr (lk 2 rfl rfl) (lk 0 rfl rfl)) ?_
        refine S.sil 4 rfl rfl (fun _ => .assign (lk 0 rfl rfl)) ?_
        refine S.nil ?_
        refine thenQ_n ?_
        refine AWp.ret ?_
        refine thenQ_r ?_
        refine end1 rfl (lk 0 rfl rfl) rfl (by first | rfl | simp []) ?_
        rw [behindLock, if_neg (by simpa using c0), if_neg (by simpa using c1), if_pos c2]
      · try simp only [decide_eq_true_eq, decide_eq_false_iff_not, Bool.not_eq_true', Bool.not_eq_false', Bool.and_eq_true, Bool.or_eq_true, Bool.and_eq_false_iff, Bool.or_eq_false_iff, Bool.not_eq_true, Bool.not_eq_false, ite_eq_left_iff] at c2
        refine AWp.skip ?_
        refine thenQ_n ?_
        refine AWp.seq ?_
        refine W.reg [0, 1, 2, 3, 4, 5] rfl ?_
        first | refine S.sil 35 rfl rfl (fun _ => .fieldAddr lay23 rfl rfl (lk 17 rfl rfl)) ?_ | refine S.sil 35 rfl rfl (fun _ => .fieldAddrC lay23 rfl rfl (lk 17 rfl rfl) rfl (by first | rfl | simp)) ?_
        first | refine S.qui 36 rfl rfl (fun _ => .load sz3 ag3 (lk 0 rfl rfl) (by first | rfl | simp) rfl rfl (by first | rfl | simp) (by first | rfl | simp)) ?_ | refine S.sil 36 rfl rfl (fun _ => .loadC sz3 ag3 (lk 0 rfl rfl) (by first | rfl | simp) (by first | rfl | simp)) ?_
        first | refine S.sil 37 rfl rfl (fun _ => .fieldAddr lay23 rfl rfl (lk 18 rfl rfl)) ?_ | refine S.sil 37 rfl rfl (fun _ => .fieldAddrC lay23 rfl rfl (lk 18 rfl rfl) rfl (by first | rfl | simp)) ?_
        first | refine S.qui 38 rfl rfl (fun _ => .load sz3 ag3 (lk 0 rfl rfl) (by first | rfl | simp) rfl rfl (by first | rfl | simp) (by first | rfl | simp)) ?_ | refine S.sil 38 rfl rfl (fun _ => .loadC sz3 ag3 (lk 0 rfl rfl) (by first | rfl | simp) (by first | rfl | simp)) ?_
        refine S.sil 39 rfl rfl (fun _ => .gtr (lk 2 rfl rfl) (lk 0 rfl rfl)) ?_
        refine S.sil 4 rfl rfl (fun _ => .assign (lk 0 rfl rfl)) ?_
        refine S.nil ?_
        refine thenQ_n ?_
        refine AWp.ret ?_
        refine end1 rfl (lk 0 rfl rfl) rfl (by first | rfl | simp []) ?_
        rw [behindLock, if_neg (by simpa using c0), if_neg (by simpa using c1), if_neg (by simpa using c2)]

theorem rJoin_ok (a b : Lock) : PureC Pg 12 [encLock a, encLock b] (encLock (if behindLock b a = true then b else a)) := by
  refine PureC.of (CallSpec.of_body 10 0 Try.func12 rfl rfl rfl (by simp) ?_) (by simp []) (by simp [])
  refine AWp.seq ?_
  refine W.reg [0, 1, 2] rfl ?_
  refine S.new 2 rfl rfl (.box (lk 0 rfl rfl) rfl) ?_
  refine S.new 3 rfl rfl (.box (lk 2 rfl rfl) rfl) ?_
  refine S.new 4 rfl rfl (.alloc zv23) ?_
  refine S.nil ?_
  refine thenQ_n ?_
  refine AWp.seq ?_
  refine AWp.seq ?_
  refine W.reg [0, 1, 2] rfl ?_
  first | refine S.qui 5 rfl rfl (fun _ => .load sz23 ag23 (lk 1 rfl rfl) (by first | rfl | simp) rfl rfl (by first | rfl | simp) (by first | rfl | simp)) ?_ | refine S.sil 5 rfl rfl (fun _ => .loadC sz23 ag23 (lk 1 rfl rfl) (by first | rfl | simp) (by first | rfl | simp)) ?_
  first | refine S.qui 6 rfl rfl (fun _ => .load sz23 ag23 (lk 3 rfl rfl) (by first | rfl | simp) rfl rfl (by first | rfl | simp) (by first | rfl | simp)) ?_ | refine S.sil 6 rfl rfl (fun _ => .loadC sz23 ag23 (lk 3 rfl rfl) (by first | rfl | simp) (by first | rfl | simp)) ?_
  refine S.sil 7 rfl rfl (fun _ => .callQ ent13 cF (.c (lk 1 rfl rfl) (by first | exact V.sub.refl _ | exact V.sub.forget _ _ _ | exact V.sub.nils_no _ | exact V.sub.nils _) (.c (lk 0 rfl rfl) (by first | exact V.sub.refl _ | exact V.sub.forget _ _ _ | exact V.sub.nils_no _ | exact V.sub.nils _) .nil)) (rBehind_ok _ _)) ?_
  refine S.nil ?_
  refine thenQ_n ?_
  refine AWp.cond (lk 0 rfl rfl) (fun c0 => ?_) (fun c0 => ?_)
  · try simp only [decide_eq_true_eq, decide_eq_false_iff_not, Bool.not_eq_true', Bool.not_eq_false', Bool.and_eq_true, Bool.or_eq_true, Bool.and_eq_false_iff, Bool.or_eq_false_iff, Bool.not_eq_true, Bool.not_eq_false, ite_eq_left_iff] at c0
    refine AWp.seq ?_
    refine W.reg [0, 1] rfl ?_
    first | refine S.qui 8 rfl rfl (fun _ => .load sz23 ag23 (lk 4 rfl rfl) (by first | rfl | simp) rfl rfl (by first | rfl | simp) (by first | rfl | simp)) ?_ | refine S.sil 8 rfl rfl (fun _ => .loadC sz23 ag23 (lk 4 rfl rfl) (by first | rfl | simp) (by first | rfl | simp)) ?_
    refine S.effN rfl rfl (.store sz23 (lk 4 rfl rfl) (lk 0 rfl rfl) rfl rfl rfl rfl (by first | rfl | simp) (by first | rfl | simp)) ?_
    refine S.nil ?_
    refine thenQ_n ?_
    refine AWp.ret ?_
    refine thenQ_r ?_
    refine end1c rfl (.cell sz23 ag23 (lk 4 rfl rfl) (by first | rfl | simp) rfl rfl (by first | rfl | simp) (by first | rfl | simp)) (by first | rfl | simp []) ?_
    rw [if_pos c0]; rfl
  · try simp only [decide_eq_true_eq, decide_eq_false_iff_not, Bool.not_eq_true', Bool.not_eq_false', Bool.and_eq_true, Bool.or_eq_true, Bool.and_eq_false_iff, Bool.or_eq_false_iff, Bool.not_eq_true, Bool.not_eq_false, ite_eq_left_iff] at c0
    refine AWp.skip ?_
    refine thenQ_n ?_
    refine AWp.seq ?_
    refine W.reg [0, 1] rfl ?_
    first | refine S.qui 9 rfl rfl (fun _ => .load sz23 ag23 (lk 5 rfl rfl) (by first | rfl | simp) rfl rfl (by first | rfl | simp) (by first | rfl | simp)) ?_ | refine S.sil 9 rfl rfl (fun _ => .loadC sz23 ag23 (lk 5 rfl rfl) (by first | rfl | simp) (by first | rfl | simp)) ?_
    refine S.effN rfl rfl (.store sz23 (lk 4 rfl rfl) (lk 0 rfl rfl) rfl rfl rfl rfl (by first | rfl | simp) (by first | rfl | simp)) ?_
    refine S.nil ?_
    refine thenQ_n ?_
    refine AWp.ret ?_
    refine end1c rfl (.cell sz23 ag23 (lk 4 rfl rfl) (by first | rfl | simp) rfl rfl (by first | rfl | simp) (by first | rfl | simp)) (by first | rfl | simp []) ?_
    rw [if_neg (by simpa using c0)]; rfl

theorem awake_ok : PureC Pg 10 [] (.bool true) := by
  refine PureC.of (CallSpec.of_body 57 0 Try.func10 rfl rfl rfl (by simp) ?_) (by simp []) (by simp [])
  refine AWp.seq ?_
  refine W.reg [0] rfl ?_
  refine S.sil 0 rfl rfl (fun _ => .assign cB) ?_
  refine S.nil ?_
  refine thenQ_n ?_
  refine AWp.seq ?_
  refine W.reg [0, 1, 2, 3, 4, 5, 6] rfl ?_
  refine S.sil 10 rfl rfl (fun _ => .callQ ent14 cF (.c cI (by first | exact V.sub.refl _ | exact V.sub.forget _ _ _ | exact V.sub.nils_no _ | exact V.sub.nils _) (.c cI (by first | exact V.sub.refl _ | exact V.sub.forget _ _ _ | exact V.sub.nils_no _ | exact V.sub.nils _) .nil)) (New_ok _ _)) ?_
  refine S.sil 9 rfl rfl (fun _ => .move (lk 0 rfl rfl)) ?_
  refine S.sil 11 rfl rfl (fun _ => .extract (lk 0 rfl rfl) rfl) ?_
  refine S.sil 12 rfl rfl (fun _ => .extract (lk 1 rfl rfl) rfl) ?_
  refine S.new 1 rfl rfl (.alloc zv23) ?_
  refine S.effN rfl rfl (.store sz23 (lk 0 rfl rfl) (lk 2 rfl rfl) rfl rfl rfl rfl (by first | rfl | simp) (by first | rfl | simp)) ?_
  refine S.sil 2 rfl rfl (fun _ => .assign (lk 1 rfl rfl)) ?_
  refine S.nil ?_
  refine thenQ_n ?_
  refine AWp.seq ?_
  refine W.reg [0, 1, 2, 3, 4, 5, 6, 7] rfl ?_
  first | refine S.qui 14 rfl rfl (fun _ => .load sz23 ag23 (lk 1 rfl rfl) (by first | rfl | simp) rfl rfl (by first | rfl | simp) (by first | rfl | simp)) ?_ | refine S.sil 14 rfl rfl (fun _ => .loadC sz23 ag23 (lk 1 rfl rfl) (by first | rfl | simp) (by first | rfl | simp)) ?_
  refine S.sil 15 rfl rfl (fun _ => .callQ ent15 cF (.c (lk 0 rfl rfl) (by first | exact V.sub.refl _ | exact V.sub.forget _ _ _ | exact V.sub.nils_no _ | exact V.sub.nils _) (.c cI (by first | exact V.sub.refl _ | exact V.sub.forget _ _ _ | exact V.sub.nils_no _ | exact V.sub.nils _) (.c cI (by first | exact V.sub.refl _ | exact V.sub.forget _ _ _ | exact V.sub.nils_no _ | exact V.sub.nils _) .nil))) (Write_ok _ _ _)) ?_
  refine S.sil 13 rfl rfl (fun _ => .move (lk 0 rfl rfl)) ?_
  refine S.sil 16 rfl rfl (fun _ => .extract (lk 0 rfl rfl) rfl) ?_
  refine S.sil 17 rfl rfl (fun _ => .extract (lk 1 rfl rfl) rfl) ?_
  refine S.new 3 rfl rfl (.alloc zv23) ?_
  refine S.effN rfl rfl (.store sz23 (lk 0 rfl rfl) (lk 2 rfl rfl) rfl rfl rfl rfl (by first | rfl | simp) (by first | rfl | simp)) ?_
  refine S.sil 4 rfl rfl (fun _ => .assign (lk 1 rfl rfl)) ?_
  refine S.nil ?_
  refine thenQ_n ?_
  refine AWp.seq ?_
  refine W.reg [0, 1, 2, 3, 4, 5, 6, 7] rfl ?_
  first | refine S.qui 19 rfl rfl (fun _ => .load sz23 ag23 (lk 8 rfl rfl) (by first | rfl | simp) rfl rfl (by first | rfl | simp) (by first | rfl | simp)) ?_ | refine S.sil 19 rfl rfl (fun _ => .loadC sz23 ag23 (lk 8 rfl rfl) (by first | rfl | simp) (by first | rfl | simp)) ?_
  refine S.sil 20 rfl rfl (fun _ => .callQ ent15 cF (.c (lk 0 rfl rfl) (by first | exact V.sub.refl _ | exact V.sub.forget _ _ _ | exact V.sub.nils_no _ | exact V.sub.nils _) (.c cI (by first | exact V.sub.refl _ | exact V.sub.forget _ _ _ | exact V.sub.nils_no _ | exact V.sub.nils _) (.c cI (by first | exact V.sub.refl _ | exact V.sub.forget _ _ _ | exact V.sub.nils_no _ | exact V.sub.nils _) .nil))) (Write_ok _ _ _)) ?_
  refine S.sil 18 rfl rfl (fun _ => .move (lk 0 rfl rfl)) ?_
  refine S.sil 21 rfl rfl (fun _ => .extract (lk 0 rfl rfl) rfl) ?_
  refine S.sil 22 rfl rfl (fun _ => .extract (lk 1 rfl rfl) rfl) ?_
  refine S.new 5 rfl rfl (.alloc zv23) ?_
  refine S.effN rfl rfl (.store sz23 (lk 0 rfl rfl) (lk 2 rfl rfl) rfl rfl rfl rfl (by first | rfl | simp) (by first | rfl | simp)) ?_
  refine S.sil 6 rfl rfl (fun _ => .assign (lk 1 rfl rfl)) ?_
  refine S.nil ?_
  refine thenQ_n ?_
  refine AWp.seq ?_
  refine W.reg [0, 1, 2, 3, 4, 5, 6, 7] rfl ?_
  first | refine S.qui 24 rfl rfl (fun _ => .load sz23 ag23 (lk 1 rfl rfl) (by first | rfl | simp) rfl rfl (by first | rfl | simp) (by first | rfl | simp)) ?_ | refine S.sil 24 rfl rfl (fun _ => .loadC sz23 ag23 (lk 1 rfl rfl) (by first | rfl | simp) (by first | rfl | simp)) ?_
  refine S.sil 25 rfl rfl (fun _ => .callQ ent16 cF (.c (lk 0 rfl rfl) (by first | exact V.sub.refl _ | exact V.sub.forget _ _ _ | exact V.sub.nils_no _ | exact V.sub.nils _) (.c cI (by first | exact V.sub.refl _ | exact V.sub.forget _ _ _ | exact V.sub.nils_no _ | exact V.sub.nils _) (.c cI (by first | exact V.sub.refl _ | exact V.sub.forget _ _ _ | exact V.sub.nils_no _ | exact V.sub.nils _) .nil))) (Pass_ok _ _ _)) ?_
  refine S.sil 23 rfl rfl (fun _ => .move (lk 0 rfl rfl)) ?_
  refine S.sil 26 rfl rfl (fun _ => .extract (lk 0 rfl rfl) rfl) ?_
  refine S.sil 27 rfl rfl (fun _ => .extract (lk 1 rfl rfl) rfl) ?_
  refine S.new 7 rfl rfl (.alloc zv23) ?_
  refine S.effN rfl rfl (.store sz23 (lk 0 rfl rfl) (lk 2 rfl rfl) rfl rfl rfl rfl (by first | rfl | simp) (by first | rfl | simp)) ?_
  refine S.sil 8 rfl rfl (fun _ => .assign (lk 1 rfl rfl)) ?_
  refine S.nil ?_
  refine thenQ_n ?_
  refine AWp.seq ?_
  refine W.reg [0, 1, 2, 3, 4, 5, 6, 7, 8, 9, 10, 11, 12, 13, 14, 15, 16, 17, 18, 19, 20, 21, 22, 23, 24, 25, 26, 27, 28, 29] rfl ?_
  refine S.sil 28 rfl rfl (fun _ => .move (lk 21 rfl rfl)) ?_
  refine S.sil 29 rfl rfl (fun _ => .eql (lk 0 rfl rfl) cI) ?_
  refine S.sil 30 rfl rfl (fun _ => .move (lk 0 rfl rfl)) ?_
  refine S.gsil 31 2 30 true rfl rfl rfl (lk 0 rfl rfl) (fun hB _ => .move (lk 17 rfl rfl)) ?_
  refine S.gsil 32 2 30 true rfl rfl rfl (lk 1 rfl rfl) (fun hB _ => .eql (ifT hB (lk 0 rfl rfl)) cI) ?_
  refine S.sil 33 rfl rfl (fun _ => .pickAnd (lk 2 rfl rfl) (fun h => ifT h (lk 0 rfl rfl)) cB) ?_
  refine S.sil 34 rfl rfl (fun _ => .move (lk 0 rfl rfl)) ?_
  refine S.gsil 35 6 34 true rfl rfl rfl (lk 0 rfl rfl) (fun hB _ => .move (lk 14 rfl rfl)) ?_
  refine S.gsil 36 6 34 true rfl rfl rfl (lk 1 rfl rfl) (fun hB _ => .eql (ifT hB (lk 0 rfl rfl)) cI) ?_
  refine S.sil 37 rfl rfl (fun _ => .pickAnd (lk 2 rfl rfl) (fun h => ifT h (lk 0 rfl rfl)) cB) ?_
  refine S.sil 38 rfl rfl (fun _ => .move (lk 0 rfl rfl)) ?_
  first | refine S.gsil 39 10 38 true rfl rfl rfl (lk 0 rfl rfl) (fun hB _ => .fieldAddr lay23 rfl rfl (lk 19 rfl rfl)) ?_ | refine S.gsil 39 10 38 true rfl rfl rfl (lk 0 rfl rfl) (fun hB _ => .fieldAddrC lay23 rfl rfl (lk 19 rfl rfl) rfl (by first | rfl | simp)) ?_
  first | refine S.gqui 40 10 38 true rfl rfl rfl (lk 1 rfl rfl) (fun hB _ => .load sz3 ag3 (ifT hB (lk 0 rfl rfl)) (by first | rfl | simp) rfl rfl (by first | rfl | simp) (by first | rfl | simp)) ?_ | refine S.gsil 40 10 38 true rfl rfl rfl (lk 1 rfl rfl) (fun hB _ => .loadC sz3 ag3 (ifT hB (lk 0 rfl rfl)) (by first | rfl | simp) (by first | rfl | simp)) ?_
  refine S.gsil 41 10 38 true rfl rfl rfl (lk 2 rfl rfl) (fun hB _ => .eql (ifT hB (lk 0 rfl rfl)) cI) ?_
  refine S.sil 42 rfl rfl (fun _ => .pickAnd (lk 3 rfl rfl) (fun h => ifT h (lk 0 rfl rfl)) cB) ?_
  refine S.sil 43 rfl rfl (fun _ => .move (lk 0 rfl rfl)) ?_
  first | refine S.gsil 44 15 43 true rfl rfl rfl (lk 0 rfl rfl) (fun hB _ => .fieldAddr lay23 rfl rfl (lk 24 rfl rfl)) ?_ | refine S.gsil 44 15 43 true rfl rfl rfl (lk 0 rfl rfl) (fun hB _ => .fieldAddrC lay23 rfl rfl (lk 24 rfl rfl) rfl (by first | rfl | simp)) ?_
  first | refine S.gqui 45 15 43 true rfl rfl rfl (lk 1 rfl rfl) (fun hB _ => .load sz3 ag3 (ifT hB (lk 0 rfl rfl)) (by first | rfl | simp) rfl rfl (by first | rfl | simp) (by first | rfl | simp)) ?_ | refine S.gsil 45 15 43 true rfl rfl rfl (lk 1 rfl rfl) (fun hB _ => .loadC sz3 ag3 (ifT hB (lk 0 rfl rfl)) (by first | rfl | simp) (by first | rfl | simp)) ?_
  refine S.gsil 46 15 43 true rfl rfl rfl (lk 2 rfl rfl) (fun hB _ => .eql (ifT hB (lk 0 rfl rfl)) cI) ?_
  refine S.sil 47 rfl rfl (fun _ => .pickAnd (lk 3 rfl rfl) (fun h => ifT h (lk 0 rfl rfl)) cB) ?_
  refine S.sil 48 rfl rfl (fun _ => .move (lk 0 rfl rfl)) ?_
  refine S.gsil 49 20 48 true rfl rfl rfl (lk 0 rfl rfl) (fun hB _ => .move (lk 21 rfl rfl)) ?_
  refine S.gsil 50 20 48 true rfl rfl rfl (lk 1 rfl rfl) (fun hB _ => .eql (ifT hB (lk 0 rfl rfl)) cI) ?_
  refine S.sil 51 rfl rfl (fun _ => .pickAnd (lk 2 rfl rfl) (fun h => ifT h (lk 0 rfl rfl)) cB) ?_
  refine S.sil 52 rfl rfl (fun _ => .move (lk 0 rfl rfl)) ?_
  first | refine S.gqui 53 24 52 true rfl rfl rfl (lk 0 rfl rfl) (fun hB _ => .load sz23 ag23 (lk 26 rfl rfl) (by first | rfl | simp) rfl rfl (by first | rfl | simp) (by first | rfl | simp)) ?_ | refine S.gsil 53 24 52 true rfl rfl rfl (lk 0 rfl rfl) (fun hB _ => .loadC sz23 ag23 (lk 26 rfl rfl) (by first | rfl | simp) (by first | rfl | simp)) ?_
  refine S.gsil 54 24 52 true rfl rfl rfl (lk 1 rfl rfl) (fun hB _ => .buildStL lay23 zv23 (.cons cI rfl (by first | rfl | simp) (by first | rfl | simp) (.cons cI rfl (by first | rfl | simp) (by first | rfl | simp) (.cons cI rfl (by first | rfl | simp) (by first | rfl | simp) .nil))) rfl rfl) ?_
  refine S.gsil 55 24 52 true rfl rfl rfl (lk 2 rfl rfl) (fun hB _ => .eqlV eqt23 (ifT hB (lk 1 rfl rfl)) (ifT hB (lk 0 rfl rfl)) (by first | rfl | simp) (by first | rfl | simp) rfl rfl) ?_
  refine S.sil 56 rfl rfl (fun _ => .pickAnd (lk 3 rfl rfl) (fun h => ifT h (lk 0 rfl rfl)) cB) ?_
  refine S.sil 0 rfl rfl (fun _ => .assign (lk 0 rfl rfl)) ?_
  refine S.nil ?_
  refine thenQ_n ?_
  refine AWp.ret ?_
  refine end1 rfl (lk 0 rfl rfl) rfl (by first | rfl | simp []) ?_
  exact congrArg V.bool (by decide)

theorem LockLine_ok (a b c : Lock) : PureC Pg 3 [encLock a, encLock b, encLock c] (.bool true) := by
  refine PureC.of (CallSpec.of_body 60 0 Try.func3 rfl rfl rfl (by simp) ?_) (by simp []) (by simp [])
  refine AWp.seq ?_
  refine W.reg [0, 1, 2, 3] rfl ?_
  refine S.new 3 rfl rfl (.box (lk 0 rfl rfl) rfl) ?_
  refine S.new 4 rfl rfl (.box (lk 2 rfl rfl) rfl) ?_
  refine S.new 5 rfl rfl (.box (lk 4 rfl rfl) rfl) ?_
  refine S.sil 6 rfl rfl (fun _ => .assign cB) ?_
  refine S.nil ?_
  refine thenQ_n ?_
  refine AWp.seq ?_
  refine W.regD [0, 1, 2, 3, 4, 5, 6, 7, 8, 9, 10, 11] mixed ?_
  first | refine S.qui 10 rfl rfl (fun _ => .load sz23 ag23 (lk 3 rfl rfl) (by first | rfl | simp) rfl rfl (by first | rfl | simp) (by first | rfl | simp)) ?_ | refine S.sil 10 rfl rfl (fun _ => .loadC sz23 ag23 (lk 3 rfl rfl) (by first | rfl | simp) (by first | rfl | simp)) ?_
  first | refine S.qui 11 rfl rfl (fun _ => .load sz23 ag23 (lk 3 rfl rfl) (by first | rfl | simp) rfl rfl (by first | rfl | simp) (by first | rfl | simp)) ?_ | refine S.sil 11 rfl rfl (fun _ => .loadC sz23 ag23 (lk 3 rfl rfl) (by first | rfl | simp) (by first | rfl | simp)) ?_
  refine S.sil 12 rfl rfl (fun _ => .callQ ent9 cF (.c (lk 1 rfl rfl) (by first | exact V.sub.refl _ | exact V.sub.forget _ _ _ | exact V.sub.nils_no _ | exact V.sub.nils _) (.c (lk 0 rfl rfl) (by first | exact V.sub.refl _ | exact V.sub.forget _ _ _ | exact V.sub.nils_no _ | exact V.sub.nils _) .nil)) (Compare_ok _ _)) ?_
  first | refine S.qui 13 rfl rfl (fun _ => .load sz23 ag23 (lk 5 rfl rfl) (by first | rfl | simp) rfl rfl (by first | rfl | simp) (by first | rfl | simp)) ?_ | refine S.sil 13 rfl rfl (fun _ => .loadC sz23 ag23 (lk 5 rfl rfl) (by first | rfl | simp) (by first | rfl | simp)) ?_
  first | refine S.qui 14 rfl rfl (fun _ => .load sz23 ag23 (lk 5 rfl rfl) (by first | rfl | simp) rfl rfl (by first | rfl | simp) (by first | rfl | simp)) ?_ | refine S.sil 14 rfl rfl (fun _ => .loadC sz23 ag23 (lk 5 rfl rfl) (by first | rfl | simp) (by first | rfl | simp)) ?_
  refine S.sil 15 rfl rfl (fun _ => .callQ ent9 cF (.c (lk 1 rfl rfl) (by first | exact V.sub.refl _ | exact V.sub.forget _ _ _ | exact V.sub.nils_no _ | exact V.sub.nils _) (.c (lk 0 rfl rfl) (by first | exact V.sub.refl _ | exact V.sub.forget _ _ _ | exact V.sub.nils_no _ | exact V.sub.nils _) .nil)) (Compare_ok _ _)) ?_
  first | refine S.qui 16 rfl rfl (fun _ => .load sz23 ag23 (lk 9 rfl rfl) (by first | rfl | simp) rfl rfl (by first | rfl | simp) (by first | rfl | simp)) ?_ | refine S.sil 16 rfl rfl (fun _ => .loadC sz23 ag23 (lk 9 rfl rfl) (by first | rfl | simp) (by first | rfl | simp)) ?_
  first | refine S.qui 17 rfl rfl (fun _ => .load sz23 ag23 (lk 8 rfl rfl) (by first | rfl | simp) rfl rfl (by first | rfl | simp) (by first | rfl | simp)) ?_ | refine S.sil 17 rfl rfl (fun _ => .loadC sz23 ag23 (lk 8 rfl rfl) (by first | rfl | simp) (by first | rfl | simp)) ?_
  refine S.sil 18 rfl rfl (fun _ => .callQ ent9 cF (.c (lk 1 rfl rfl) (by first | exact V.sub.refl _ | exact V.sub.forget _ _ _ | exact V.sub.nils_no _ | exact V.sub.nils _) (.c (lk 0 rfl rfl) (by first | exact V.sub.refl _ | exact V.sub.forget _ _ _ | exact V.sub.nils_no _ | exact V.sub.nils _) .nil)) (Compare_ok _ _)) ?_
  refine S.sil 7 rfl rfl (fun _ => .assign (lk 6 rfl rfl)) ?_
  refine S.sil 8 rfl rfl (fun _ => .assign (lk 4 rfl rfl)) ?_
  refine S.sil 9 rfl rfl (fun _ => .assign (lk 2 rfl rfl)) ?_
  refine S.nilD (by kernel_rfl) ?_
  refine thenQ_n ?_
  refine AWp.seq ?_
  refine W.reg [0, 1, 2, 3, 4, 5, 6, 7, 8, 9, 10, 11, 12, 13, 14, 15, 16, 17, 18, 19, 20, 21, 22, 23, 24, 25, 26, 27, 28, 29, 30, 31, 32, 33, 34, 35, 36, 37, 38, 39, 40, 41] rfl ?_
  first | refine S.qui 19 rfl rfl (fun _ => .load sz23 ag23 (lk 14 rfl rfl) (by first | rfl | simp) rfl rfl (by first | rfl | simp) (by first | rfl | simp)) ?_ | refine S.sil 19 rfl rfl (fun _ => .loadC sz23 ag23 (lk 14 rfl rfl) (by first | rfl | simp) (by first | rfl | simp)) ?_
  first | refine S.qui 20 rfl rfl (fun _ => .load sz23 ag23 (lk 16 rfl rfl) (by first | rfl | simp) rfl rfl (by first | rfl | simp) (by first | rfl | simp)) ?_ | refine S.sil 20 rfl rfl (fun _ => .loadC sz23 ag23 (lk 16 rfl rfl) (by first | rfl | simp) (by first | rfl | simp)) ?_
  refine S.sil 21 rfl rfl (fun _ => .callQ ent9 cF (.c (lk 1 rfl rfl) (by first | exact V.sub.refl _ | exact V.sub.forget _ _ _ | exact V.sub.nils_no _ | exact V.sub.nils _) (.c (lk 0 rfl rfl) (by first | exact V.sub.refl _ | exact V.sub.forget _ _ _ | exact V.sub.nils_no _ | exact V.sub.nils _) .nil)) (Compare_ok _ _)) ?_
  refine S.sil 22 rfl rfl (fun _ => .move (lk 5 rfl rfl)) ?_
  refine S.sil 23 rfl rfl (fun _ => .neg (lk 0 rfl rfl)) ?_
  refine S.sil 24 rfl rfl (fun _ => .eql (lk 2 rfl rfl) (lk 0 rfl rfl)) ?_
  refine S.sil 25 rfl rfl (fun _ => .move (lk 0 rfl rfl)) ?_
  refine S.gsil 26 6 25 true rfl rfl rfl (lk 0 rfl rfl) (fun hB _ => .move (lk 9 rfl rfl)) ?_
  refine S.gsil 27 6 25 true rfl rfl rfl (lk 1 rfl rfl) (fun hB _ => .eql (ifT hB (lk 0 rfl rfl)) cI) ?_
  first | refine S.gqui 28 6 25 true rfl rfl rfl (lk 2 rfl rfl) (fun hB _ => .load sz23 ag23 (lk 24 rfl rfl) (by first | rfl | simp) rfl rfl (by first | rfl | simp) (by first | rfl | simp)) ?_ | refine S.gsil 28 6 25 true rfl rfl rfl (lk 2 rfl rfl) (fun hB _ => .loadC sz23 ag23 (lk 24 rfl rfl) (by first | rfl | simp) (by first | rfl | simp)) ?_
  first | refine S.gqui 29 6 25 true rfl rfl rfl (lk 3 rfl rfl) (fun hB _ => .load sz23 ag23 (lk 24 rfl rfl) (by first | rfl | simp) rfl rfl (by first | rfl | simp) (by first | rfl | simp)) ?_ | refine S.gsil 29 6 25 true rfl rfl rfl (lk 3 rfl rfl) (fun hB _ => .loadC sz23 ag23 (lk 24 rfl rfl) (by first | rfl | simp) (by first | rfl | simp)) ?_
  refine S.gsil 30 6 25 true rfl rfl rfl (lk 4 rfl rfl) (fun hB _ => .eqlV eqt23 (ifT hB (lk 1 rfl rfl)) (ifT hB (lk 0 rfl rfl)) (by first | rfl | simp) (by first | rfl | simp) rfl rfl) ?_
  refine S.gsil 31 6 25 true rfl rfl rfl (lk 5 rfl rfl) (fun hB _ => .eqlB und4 (ifT hB (lk 3 rfl rfl)) (ifT hB (lk 0 rfl rfl))) ?_
  refine S.sil 32 rfl rfl (fun _ => .pickAnd (lk 6 rfl rfl) (fun h => ifT h (lk 0 rfl rfl)) cB) ?_
  refine S.sil 33 rfl rfl (fun _ => .move (lk 0 rfl rfl)) ?_
  refine S.gsil 34 14 33 true rfl rfl rfl (lk 0 rfl rfl) (fun hB _ => .move (lk 17 rfl rfl)) ?_
  refine S.gsil 35 14 33 true rfl rfl rfl (lk 1 rfl rfl) (fun hB _ => .lss (ifT hB (lk 0 rfl rfl)) cI) ?_
  refine S.gsil 36 14 33 true rfl rfl rfl (lk 2 rfl rfl) (fun hB _ => .move (ifT hB (lk 0 rfl rfl))) ?_
  refine S.gsil2 37 17 36 false rfl rfl rfl (lk 0 rfl rfl) (fun hB _ => .move (lk 19 rfl rfl)) ?_
  refine S.gsil2 38 17 36 false rfl rfl rfl (lk 1 rfl rfl) (fun hB _ => .lss (ifT hB (lk 0 rfl rfl)) cI) ?_
  refine S.gsil 39 14 33 true rfl rfl rfl (lk 5 rfl rfl) (fun hB _ => .pickOr (ifT hB (lk 2 rfl rfl)) cB (fun h => ifT ⟨hB, h⟩ (lk 0 rfl rfl))) ?_
  refine S.gsil 40 14 33 true rfl rfl rfl (lk 6 rfl rfl) (fun hB _ => .move (ifT hB (lk 0 rfl rfl))) ?_
  refine S.gsil2 41 21 40 false rfl rfl rfl (lk 0 rfl rfl) (fun hB _ => .move (lk 22 rfl rfl)) ?_
  refine S.gsil2 42 21 40 false rfl rfl rfl (lk 1 rfl rfl) (fun hB _ => .geq (ifT hB (lk 0 rfl rfl)) cI) ?_
  refine S.gsil 43 14 33 true rfl rfl rfl (lk 9 rfl rfl) (fun hB _ => .pickOr (ifT hB (lk 2 rfl rfl)) cB (fun h => ifT ⟨hB, h⟩ (lk 0 rfl rfl))) ?_
  refine S.sil 44 rfl rfl (fun _ => .pickAnd (lk 10 rfl rfl) (fun h => ifT h (lk 0 rfl rfl)) cB) ?_
  refine S.sil 45 rfl rfl (fun _ => .move (lk 0 rfl rfl)) ?_
  refine S.gsil 46 26 45 true rfl rfl rfl (lk 0 rfl rfl) (fun hB _ => .move (lk 29 rfl rfl)) ?_
  refine S.gsil 47 26 45 true rfl rfl rfl (lk 1 rfl rfl) (fun hB _ => .leq (ifT hB (lk 0 rfl rfl)) cI) ?_
  refine S.gsil 48 26 45 true rfl rfl rfl (lk 2 rfl rfl) (fun hB _ => .move (ifT hB (lk 0 rfl rfl))) ?_
  refine S.gsil2 49 29 48 false rfl rfl rfl (lk 0 rfl rfl) (fun hB _ => .move (lk 31 rfl rfl)) ?_
  refine S.gsil2 50 29 48 false rfl rfl rfl (lk 1 rfl rfl) (fun hB _ => .leq (ifT hB (lk 0 rfl rfl)) cI) ?_
  refine S.gsil 51 26 45 true rfl rfl rfl (lk 5 rfl rfl) (fun hB _ => .pickOr (ifT hB (lk 2 rfl rfl)) cB (fun h => ifT ⟨hB, h⟩ (lk 0 rfl rfl))) ?_
  refine S.gsil 52 26 45 true rfl rfl rfl (lk 6 rfl rfl) (fun hB _ => .move (ifT hB (lk 0 rfl rfl))) ?_
  refine S.gsil2 53 33 52 false rfl rfl rfl (lk 0 rfl rfl) (fun hB _ => .move (lk 34 rfl rfl)) ?_
  refine S.gsil2 54 33 52 false rfl rfl rfl (lk 1 rfl rfl) (fun hB _ => .gtr (ifT hB (lk 0 rfl rfl)) cI) ?_
  refine S.gsil 55 26 45 true rfl rfl rfl (lk 9 rfl rfl) (fun hB _ => .pickOr (ifT hB (lk 2 rfl rfl)) cB (fun h => ifT ⟨hB, h⟩ (lk 0 rfl rfl))) ?_
  refine S.sil 56 rfl rfl (fun _ => .pickAnd (lk 10 rfl rfl) (fun h => ifT h (lk 0 rfl rfl)) cB) ?_
  refine S.sil 57 rfl rfl (fun _ => .move (lk 0 rfl rfl)) ?_
  refine S.gsil 58 38 57 true rfl rfl rfl (lk 0 rfl rfl) (fun hB _ => .callQ ent10 cF .nil (awake_ok)) ?_
  refine S.sil 59 rfl rfl (fun _ => .pickAnd (lk 1 rfl rfl) (fun h => ifT h (lk 0 rfl rfl)) cB) ?_
  refine S.sil 6 rfl rfl (fun _ => .assign (lk 0 rfl rfl)) ?_
  refine S.nil ?_
  refine thenQ_n ?_
  refine AWp.ret ?_
  refine end1 rfl (lk 0 rfl rfl) rfl (by first | rfl | simp []) ?_
  exact congrArg V.bool (lawLine a b c)

theorem LockJoins_ok (a b c : Lock) : PureC Pg 4 [encLock a, encLock b, encLock c] (.bool true) := by
  refine PureC.of (CallSpec.of_body 82 0 Try.func4 rfl rfl rfl (by simp) ?_) (by simp []) (by simp [])
  refine AWp.seq ?_
  refine W.reg [0, 1, 2, 3] rfl ?_
  refine S.new 3 rfl rfl (.box (lk 0 rfl rfl) rfl) ?_
  refine S.new 4 rfl rfl (.box (lk 2 rfl rfl) rfl) ?_
  refine S.new 5 rfl rfl (.box (lk 4 rfl rfl) rfl) ?_
  refine S.sil 6 rfl rfl (fun _ => .assign cB) ?_
  refine S.nil ?_
  refine thenQ_n ?_
  refine AWp.seq ?_
  refine W.reg [0, 1, 2, 3, 4] rfl ?_
  first | refine S.qui 9 rfl rfl (fun _ => .load sz23 ag23 (lk 3 rfl rfl) (by first | rfl | simp) rfl rfl (by first | rfl | simp) (by first | rfl | simp)) ?_ | refine S.sil 9 rfl rfl (fun _ => .loadC sz23 ag23 (lk 3 rfl rfl) (by first | rfl | simp) (by first | rfl | simp)) ?_
  first | refine S.qui 10 rfl rfl (fun _ => .load sz23 ag23 (lk 3 rfl rfl) (by first | rfl | simp) rfl rfl (by first | rfl | simp) (by first | rfl | simp)) ?_ | refine S.sil 10 rfl rfl (fun _ => .loadC sz23 ag23 (lk 3 rfl rfl) (by first | rfl | simp) (by first | rfl | simp)) ?_
  refine S.sil 11 rfl rfl (fun _ => .callQ ent11 cF (.c (lk 1 rfl rfl) (by first | exact V.sub.refl _ | exact V.sub.forget _ _ _ | exact V.sub.nils_no _ | exact V.sub.nils _) (.c (lk 0 rfl rfl) (by first | exact V.sub.refl _ | exact V.sub.forget _ _ _ | exact V.sub.nils_no _ | exact V.sub.nils _) .nil)) (Join_ok _ _)) ?_
  refine S.new 7 rfl rfl (.alloc zv23) ?_
  refine S.effN rfl rfl (.store sz23 (lk 0 rfl rfl) (lk 1 rfl rfl) rfl rfl rfl rfl (by first | rfl | simp) (by first | rfl | simp)) ?_
  refine S.nil ?_
  refine thenQ_n ?_
  refine AWp.seq ?_
  refine W.reg [0, 1, 2, 3] rfl ?_
  first | refine S.qui 12 rfl rfl (fun _ => .load sz23 ag23 (lk 7 rfl rfl) (by first | rfl | simp) rfl rfl (by first | rfl | simp) (by first | rfl | simp)) ?_ | refine S.sil 12 rfl rfl (fun _ => .loadC sz23 ag23 (lk 7 rfl rfl) (by first | rfl | simp) (by first | rfl | simp)) ?_
  first | refine S.qui 13 rfl rfl (fun _ => .load sz23 ag23 (lk 7 rfl rfl) (by first | rfl | simp) rfl rfl (by first | rfl | simp) (by first | rfl | simp)) ?_ | refine S.sil 13 rfl rfl (fun _ => .loadC sz23 ag23 (lk 7 rfl rfl) (by first | rfl | simp) (by first | rfl | simp)) ?_
  refine S.sil 14 rfl rfl (fun _ => .callQ ent9 cF (.c (lk 1 rfl rfl) (by first | exact V.sub.refl _ | exact V.sub.forget _ _ _ | exact V.sub.nils_no _ | exact V.sub.nils _) (.c (lk 0 rfl rfl) (by first | exact V.sub.refl _ | exact V.sub.forget _ _ _ | exact V.sub.nils_no _ | exact V.sub.nils _) .nil)) (Compare_ok _ _)) ?_
  refine S.sil 8 rfl rfl (fun _ => .assign (lk 0 rfl rfl)) ?_
  refine S.nil ?_
  refine thenQ_n ?_
  refine AWp.seq ?_
  refine AWp.seq ?_
  refine W.regD [0, 1, 2, 3, 4, 5, 6, 7, 8, 9, 10, 11, 12, 13, 14, 15, 16, 17, 18, 19, 20, 21, 22, 23, 24, 25, 26, 27, 28] mixed ?_
  first | refine S.qui 15 rfl rfl (fun _ => .load sz23 ag23 (lk 4 rfl rfl) (by first | rfl | simp) rfl rfl (by first | rfl | simp) (by first | rfl | simp)) ?_ | refine S.sil 15 rfl rfl (fun _ => .loadC sz23 ag23 (lk 4 rfl rfl) (by first | rfl | simp) (by first | rfl | simp)) ?_
  first | refine S.qui 16 rfl rfl (fun _ => .load sz23 ag23 (lk 12 rfl rfl) (by first | rfl | simp) rfl rfl (by first | rfl | simp) (by first | rfl | simp)) ?_ | refine S.sil 16 rfl rfl (fun _ => .loadC sz23 ag23 (lk 12 rfl rfl) (by first | rfl | simp) (by first | rfl | simp)) ?_
  first | refine S.qui 17 rfl rfl (fun _ => .load sz23 ag23 (lk 12 rfl rfl) (by first | rfl | simp) rfl rfl (by first | rfl | simp) (by first | rfl | simp)) ?_ | refine S.sil 17 rfl rfl (fun _ => .loadC sz23 ag23 (lk 12 rfl rfl) (by first | rfl | simp) (by first | rfl | simp)) ?_
  refine S.sil 18 rfl rfl (fun _ => .callQ ent12 cF (.c (lk 1 rfl rfl) (by first | exact V.sub.refl _ | exact V.sub.forget _ _ _ | exact V.sub.nils_no _ | exact V.sub.nils _) (.c (lk 0 rfl rfl) (by first | exact V.sub.refl _ | exact V.sub.forget _ _ _ | exact V.sub.nils_no _ | exact V.sub.nils _) .nil)) (rJoin_ok _ _)) ?_
  refine S.sil 19 rfl rfl (fun _ => .neqV eqt23 (lk 3 rfl rfl) (lk 0 rfl rfl) (by first | rfl | simp) (by first | rfl | simp) rfl rfl) ?_
  refine S.sil 20 rfl rfl (fun _ => .move (lk 0 rfl rfl)) ?_
  refine S.gsil 21 5 20 false rfl rfl rfl (lk 0 rfl rfl) (fun hB _ => .move (lk 6 rfl rfl)) ?_
  refine S.gsil 22 5 20 false rfl rfl rfl (lk 1 rfl rfl) (fun hB _ => .gtr (ifT hB (lk 0 rfl rfl)) cI) ?_
  first | refine S.gqui 23 5 20 false rfl rfl rfl (lk 2 rfl rfl) (fun hB _ => .load sz23 ag23 (lk 19 rfl rfl) (by first | rfl | simp) rfl rfl (by first | rfl | simp) (by first | rfl | simp)) ?_ | refine S.gsil 23 5 20 false rfl rfl rfl (lk 2 rfl rfl) (fun hB _ => .loadC sz23 ag23 (lk 19 rfl rfl) (by first | rfl | simp) (by first | rfl | simp)) ?_
  first | refine S.gqui 24 5 20 false rfl rfl rfl (lk 3 rfl rfl) (fun hB _ => .load sz23 ag23 (lk 19 rfl rfl) (by first | rfl | simp) rfl rfl (by first | rfl | simp) (by first | rfl | simp)) ?_ | refine S.gsil 24 5 20 false rfl rfl rfl (lk 3 rfl rfl) (fun hB _ => .loadC sz23 ag23 (lk 19 rfl rfl) (by first | rfl | simp) (by first | rfl | simp)) ?_
  refine S.gsil 25 5 20 false rfl rfl rfl (lk 4 rfl rfl) (fun hB _ => .callQ ent13 cF (.c (ifT hB (lk 1 rfl rfl)) (by first | exact V.sub.refl _ | exact V.sub.forget _ _ _ | exact V.sub.nils_no _ | exact V.sub.nils _) (.c (ifT hB (lk 0 rfl rfl)) (by first | exact V.sub.refl _ | exact V.sub.forget _ _ _ | exact V.sub.nils_no _ | exact V.sub.nils _) .nil)) (rBehind_ok _ _)) ?_
  refine S.gsil 26 5 20 false rfl rfl rfl (lk 5 rfl rfl) (fun hB _ => .neqB und4 (ifT hB (lk 3 rfl rfl)) (ifT hB (lk 0 rfl rfl))) ?_
  refine S.sil 27 rfl rfl (fun _ => .pickOr (lk 6 rfl rfl) cB (fun h => ifT h (lk 0 rfl rfl))) ?_
  refine S.sil 28 rfl rfl (fun _ => .move (lk 0 rfl rfl)) ?_
  refine S.gsil 29 13 28 false rfl rfl rfl (lk 0 rfl rfl) (fun hB _ => .move (lk 14 rfl rfl)) ?_
  refine S.gsil 30 13 28 false rfl rfl rfl (lk 1 rfl rfl) (fun hB _ => .lss (ifT hB (lk 0 rfl rfl)) cI) ?_
  first | refine S.gqui 31 13 28 false rfl rfl rfl (lk 2 rfl rfl) (fun hB _ => .load sz23 ag23 (lk 26 rfl rfl) (by first | rfl | simp) rfl rfl (by first | rfl | simp) (by first | rfl | simp)) ?_ | refine S.gsil 31 13 28 false rfl rfl rfl (lk 2 rfl rfl) (fun hB _ => .loadC sz23 ag23 (lk 26 rfl rfl) (by first | rfl | simp) (by first | rfl | simp)) ?_
  first | refine S.gqui 32 13 28 false rfl rfl rfl (lk 3 rfl rfl) (fun hB _ => .load sz23 ag23 (lk 28 rfl rfl) (by first | rfl | simp) rfl rfl (by first | rfl | simp) (by first | rfl | simp)) ?_ | refine S.gsil 32 13 28 false rfl rfl rfl (lk 3 rfl rfl) (fun hB _ => .loadC sz23 ag23 (lk 28 rfl rfl) (by first | rfl | simp) (by first | rfl | simp)) ?_
  refine S.gsil 33 13 28 false rfl rfl rfl (lk 4 rfl rfl) (fun hB _ => .callQ ent13 cF (.c (ifT hB (lk 1 rfl rfl)) (by first | exact V.sub.refl _ | exact V.sub.forget _ _ _ | exact V.sub.nils_no _ | exact V.sub.nils _) (.c (ifT hB (lk 0 rfl rfl)) (by first | exact V.sub.refl _ | exact V.sub.forget _ _ _ | exact V.sub.nils_no _ | exact V.sub.nils _) .nil)) (rBehind_ok _ _)) ?_
  refine S.gsil 34 13 28 false rfl rfl rfl (lk 5 rfl rfl) (fun hB _ => .neqB und4 (ifT hB (lk 3 rfl rfl)) (ifT hB (lk 0 rfl rfl))) ?_
  refine S.sil 35 rfl rfl (fun _ => .pickOr (lk 6 rfl rfl) cB (fun h => ifT h (lk 0 rfl rfl))) ?_
  refine S.sil 36 rfl rfl (fun _ => .move (lk 0 rfl rfl)) ?_
  refine S.gsil 37 21 36 false rfl rfl rfl (lk 0 rfl rfl) (fun hB _ => .move (lk 22 rfl rfl)) ?_
  refine S.gsil 38 21 36 false rfl rfl rfl (lk 1 rfl rfl) (fun hB _ => .eql (ifT hB (lk 0 rfl rfl)) cI) ?_
  first | refine S.gqui 39 21 36 false rfl rfl rfl (lk 2 rfl rfl) (fun hB _ => .load sz23 ag23 (lk 35 rfl rfl) (by first | rfl | simp) rfl rfl (by first | rfl | simp) (by first | rfl | simp)) ?_ | refine S.gsil 39 21 36 false rfl rfl rfl (lk 2 rfl rfl) (fun hB _ => .loadC sz23 ag23 (lk 35 rfl rfl) (by first | rfl | simp) (by first | rfl | simp)) ?_
  first | refine S.gqui 40 21 36 false rfl rfl rfl (lk 3 rfl rfl) (fun hB _ => .load sz23 ag23 (lk 35 rfl rfl) (by first | rfl | simp) rfl rfl (by first | rfl | simp) (by first | rfl | simp)) ?_ | refine S.gsil 40 21 36 false rfl rfl rfl (lk 3 rfl rfl) (fun hB _ => .loadC sz23 ag23 (lk 35 rfl rfl) (by first | rfl | simp) (by first | rfl | simp)) ?_
  refine S.gsil 41 21 36 false rfl rfl rfl (lk 4 rfl rfl) (fun hB _ => .eqlV eqt23 (ifT hB (lk 1 rfl rfl)) (ifT hB (lk 0 rfl rfl)) (by first | rfl | simp) (by first | rfl | simp) rfl rfl) ?_
  refine S.gsil 42 21 36 false rfl rfl rfl (lk 5 rfl rfl) (fun hB _ => .neqB und4 (ifT hB (lk 3 rfl rfl)) (ifT hB (lk 0 rfl rfl))) ?_
  refine S.sil 43 rfl rfl (fun _ => .pickOr (lk 6 rfl rfl) cB (fun h => ifT h (lk 0 rfl rfl))) ?_
  refine S.nilD (by kernel_rfl) ?_
  refine thenQ_n ?_
  refine AWp.cond (lk 0 rfl rfl) (fun c0 => ?_) (fun c0 => ?_)
  · try simp only [decide_eq_true_eq, decide_eq_false_iff_not, Bool.not_eq_true', Bool.not_eq_false', Bool.and_eq_true, Bool.or_eq_true, Bool.and_eq_false_iff, Bool.or_eq_false_iff, Bool.not_eq_true, Bool.not_eq_false, ite_eq_left_iff] at c0
    refine AWp.seq ?_
    refine W.reg [0] rfl ?_
    refine S.sil 6 rfl rfl (fun _ => .assign cB) ?_
    refine S.nil ?_
    refine thenQ_n ?_
    refine AWp.ret ?_
    refine thenQ_r ?_
    refine end1 rfl (lk 0 rfl rfl) rfl (by first | rfl | simp []) ?_
    exact absurd c0 (lawJoins0 a b)
  · try simp only [decide_eq_true_eq, decide_eq_false_iff_not, Bool.not_eq_true', Bool.not_eq_false', Bool.and_eq_true, Bool.or_eq_true, Bool.and_eq_false_iff, Bool.or_eq_false_iff, Bool.not_eq_true, Bool.not_eq_false, ite_eq_left_iff] at c0
    refine AWp.skip ?_
    refine thenQ_n ?_
    refine AWp.seq ?_
    refine W.regD [0, 1, 2, 3, 4, 5, 6, 7, 8, 9, 10, 11, 12, 13, 14, 15, 16, 17, 18, 19, 20, 21, 22, 23, 24, 25, 26, 27, 28, 29, 30, 31, 32, 33, 34, 35, 36, 37, 38] mixed ?_
    first | refine S.qui 44 rfl rfl (fun _ => .load sz23 ag23 (lk 33 rfl rfl) (by first | rfl | simp) rfl rfl (by first | rfl | simp) (by first | rfl | simp)) ?_ | refine S.sil 44 rfl rfl (fun _ => .loadC sz23 ag23 (lk 33 rfl rfl) (by first | rfl | simp) (by first | rfl | simp)) ?_
    first | refine S.qui 45 rfl rfl (fun _ => .load sz23 ag23 (lk 40 rfl rfl) (by first | rfl | simp) rfl rfl (by first | rfl | simp) (by first | rfl | simp)) ?_ | refine S.sil 45 rfl rfl (fun _ => .loadC sz23 ag23 (lk 40 rfl rfl) (by first | rfl | simp) (by first | rfl | simp)) ?_
    first | refine S.qui 46 rfl rfl (fun _ => .load sz23 ag23 (lk 42 rfl rfl) (by first | rfl | simp) rfl rfl (by first | rfl | simp) (by first | rfl | simp)) ?_ | refine S.sil 46 rfl rfl (fun _ => .loadC sz23 ag23 (lk 42 rfl rfl) (by first | rfl | simp) (by first | rfl | simp)) ?_
    refine S.sil 47 rfl rfl (fun _ => .callQ ent11 cF (.c (lk 1 rfl rfl) (by first | exact V.sub.refl _ | exact V.sub.forget _ _ _ | exact V.sub.nils_no _ | exact V.sub.nils _) (.c (lk 0 rfl rfl) (by first | exact V.sub.refl _ | exact V.sub.forget _ _ _ | exact V.sub.nils_no _ | exact V.sub.nils _) .nil)) (Join_ok _ _)) ?_
    refine S.sil 48 rfl rfl (fun _ => .eqlV eqt23 (lk 3 rfl rfl) (lk 0 rfl rfl) (by first | rfl | simp) (by first | rfl | simp) rfl rfl) ?_
    refine S.sil 49 rfl rfl (fun _ => .move (lk 0 rfl rfl)) ?_
    first | refine S.gqui 50 5 49 true rfl rfl rfl (lk 0 rfl rfl) (fun hB _ => .load sz23 ag23 (lk 39 rfl rfl) (by first | rfl | simp) rfl rfl (by first | rfl | simp) (by first | rfl | simp)) ?_ | refine S.gsil 50 5 49 true rfl rfl rfl (lk 0 rfl rfl) (fun hB _ => .loadC sz23 ag23 (lk 39 rfl rfl) (by first | rfl | simp) (by first | rfl | simp)) ?_
    first | refine S.gqui 51 5 49 true rfl rfl rfl (lk 1 rfl rfl) (fun hB _ => .load sz23 ag23 (lk 45 rfl rfl) (by first | rfl | simp) rfl rfl (by first | rfl | simp) (by first | rfl | simp)) ?_ | refine S.gsil 51 5 49 true rfl rfl rfl (lk 1 rfl rfl) (fun hB _ => .loadC sz23 ag23 (lk 45 rfl rfl) (by first | rfl | simp) (by first | rfl | simp)) ?_
    refine S.gsil 52 5 49 true rfl rfl rfl (lk 2 rfl rfl) (fun hB _ => .callQ ent11 cF (.c (ifT hB (lk 1 rfl rfl)) (by first | exact V.sub.refl _ | exact V.sub.forget _ _ _ | exact V.sub.nils_no _ | exact V.sub.nils _) (.c (ifT hB (lk 0 rfl rfl)) (by first | exact V.sub.refl _ | exact V.sub.forget _ _ _ | exact V.sub.nils_no _ | exact V.sub.nils _) .nil)) (Join_ok _ _)) ?_
    first | refine S.gqui 53 5 49 true rfl rfl rfl (lk 3 rfl rfl) (fun hB _ => .load sz23 ag23 (lk 49 rfl rfl) (by first | rfl | simp) rfl rfl (by first | rfl | simp) (by first | rfl | simp)) ?_ | refine S.gsil 53 5 49 true rfl rfl rfl (lk 3 rfl rfl) (fun hB _ => .loadC sz23 ag23 (lk 49 rfl rfl) (by first | rfl | simp) (by first | rfl | simp)) ?_
    first | refine S.gqui 54 5 49 true rfl rfl rfl (lk 4 rfl rfl) (fun hB _ => .load sz23 ag23 (lk 49 rfl rfl) (by first | rfl | simp) rfl rfl (by first | rfl | simp) (by first | rfl | simp)) ?_ | refine S.gsil 54 5 49 true rfl rfl rfl (lk 4 rfl rfl) (fun hB _ => .loadC sz23 ag23 (lk 49 rfl rfl) (by first | rfl | simp) (by first | rfl | simp)) ?_
    first | refine S.gqui 55 5 49 true rfl rfl rfl (lk 5 rfl rfl) (fun hB _ => .load sz23 ag23 (lk 49 rfl rfl) (by first | rfl | simp) rfl rfl (by first | rfl | simp) (by first | rfl | simp)) ?_ | refine S.gsil 55 5 49 true rfl rfl rfl (lk 5 rfl rfl) (fun hB _ => .loadC sz23 ag23 (lk 49 rfl rfl) (by first | rfl | simp) (by first | rfl | simp)) ?_
    refine S.gsil 56 5 49 true rfl rfl rfl (lk 6 rfl rfl) (fun hB _ => .callQ ent11 cF (.c (ifT hB (lk 1 rfl rfl)) (by first | exact V.sub.refl _ | exact V.sub.forget _ _ _ | exact V.sub.nils_no _ | exact V.sub.nils _) (.c (ifT hB (lk 0 rfl rfl)) (by first | exact V.sub.refl _ | exact V.sub.forget _ _ _ | exact V.sub.nils_no _ | exact V.sub.nils _) .nil)) (Join_ok _ _)) ?_
    refine S.gsil 57 5 49 true rfl rfl rfl (lk 7 rfl rfl) (fun hB _ => .callQ ent11 cF (.c (ifT hB (lk 3 rfl rfl)) (by first | exact V.sub.refl _ | exact V.sub.forget _ _ _ | exact V.sub.nils_no _ | exact V.sub.nils _) (.c (ifT hB (lk 0 rfl rfl)) (by first | exact V.sub.refl _ | exact V.sub.forget _ _ _ | exact V.sub.nils_no _ | exact V.sub.nils _) .nil)) (Join_ok _ _)) ?_
    refine S.gsil 58 5 49 true rfl rfl rfl (lk 8 rfl rfl) (fun hB _ => .eqlV eqt23 (ifT hB (lk 5 rfl rfl)) (ifT hB (lk 0 rfl rfl)) (by first | rfl | simp) (by first | rfl | simp) rfl rfl) ?_
    refine S.sil 59 rfl rfl (fun _ => .pickAnd (lk 9 rfl rfl) (fun h => ifT h (lk 0 rfl rfl)) cB) ?_
    refine S.sil 60 rfl rfl (fun _ => .move (lk 0 rfl rfl)) ?_
    first | refine S.gqui 61 16 60 true rfl rfl rfl (lk 0 rfl rfl) (fun hB _ => .load sz23 ag23 (lk 57 rfl rfl) (by first | rfl | simp) rfl rfl (by first | rfl | simp) (by first | rfl | simp)) ?_ | refine S.gsil 61 16 60 true rfl rfl rfl (lk 0 rfl rfl) (fun hB _ => .loadC sz23 ag23 (lk 57 rfl rfl) (by first | rfl | simp) (by first | rfl | simp)) ?_
    first | refine S.gqui 62 16 60 true rfl rfl rfl (lk 1 rfl rfl) (fun hB _ => .load sz23 ag23 (lk 58 rfl rfl) (by first | rfl | simp) rfl rfl (by first | rfl | simp) (by first | rfl | simp)) ?_ | refine S.gsil 62 16 60 true rfl rfl rfl (lk 1 rfl rfl) (fun hB _ => .loadC sz23 ag23 (lk 58 rfl rfl) (by first | rfl | simp) (by first | rfl | simp)) ?_
    refine S.gsil 63 16 60 true rfl rfl rfl (lk 2 rfl rfl) (fun hB _ => .callQ ent11 cF (.c (ifT hB (lk 1 rfl rfl)) (by first | exact V.sub.refl _ | exact V.sub.forget _ _ _ | exact V.sub.nils_no _ | exact V.sub.nils _) (.c (ifT hB (lk 0 rfl rfl)) (by first | exact V.sub.refl _ | exact V.sub.forget _ _ _ | exact V.sub.nils_no _ | exact V.sub.nils _) .nil)) (Join_ok _ _)) ?_
    first | refine S.gqui 64 16 60 true rfl rfl rfl (lk 3 rfl rfl) (fun hB _ => .load sz23 ag23 (lk 60 rfl rfl) (by first | rfl | simp) rfl rfl (by first | rfl | simp) (by first | rfl | simp)) ?_ | refine S.gsil 64 16 60 true rfl rfl rfl (lk 3 rfl rfl) (fun hB _ => .loadC sz23 ag23 (lk 60 rfl rfl) (by first | rfl | simp) (by first | rfl | simp)) ?_
    refine S.gsil 65 16 60 true rfl rfl rfl (lk 4 rfl rfl) (fun hB _ => .eqlV eqt23 (ifT hB (lk 1 rfl rfl)) (ifT hB (lk 0 rfl rfl)) (by first | rfl | simp) (by first | rfl | simp) rfl rfl) ?_
    refine S.sil 66 rfl rfl (fun _ => .pickAnd (lk 5 rfl rfl) (fun h => ifT h (lk 0 rfl rfl)) cB) ?_
    refine S.sil 67 rfl rfl (fun _ => .move (lk 0 rfl rfl)) ?_
    first | refine S.gqui 68 23 67 true rfl rfl rfl (lk 0 rfl rfl) (fun hB _ => .load sz23 ag23 (lk 57 rfl rfl) (by first | rfl | simp) rfl rfl (by first | rfl | simp) (by first | rfl | simp)) ?_ | refine S.gsil 68 23 67 true rfl rfl rfl (lk 0 rfl rfl) (fun hB _ => .loadC sz23 ag23 (lk 57 rfl rfl) (by first | rfl | simp) (by first | rfl | simp)) ?_
    first | refine S.gqui 69 23 67 true rfl rfl rfl (lk 1 rfl rfl) (fun hB _ => .load sz23 ag23 (lk 65 rfl rfl) (by first | rfl | simp) rfl rfl (by first | rfl | simp) (by first | rfl | simp)) ?_ | refine S.gsil 69 23 67 true rfl rfl rfl (lk 1 rfl rfl) (fun hB _ => .loadC sz23 ag23 (lk 65 rfl rfl) (by first | rfl | simp) (by first | rfl | simp)) ?_
    refine S.gsil 70 23 67 true rfl rfl rfl (lk 2 rfl rfl) (fun hB _ => .callQ ent9 cF (.c (ifT hB (lk 1 rfl rfl)) (by first | exact V.sub.refl _ | exact V.sub.forget _ _ _ | exact V.sub.nils_no _ | exact V.sub.nils _) (.c (ifT hB (lk 0 rfl rfl)) (by first | exact V.sub.refl _ | exact V.sub.forget _ _ _ | exact V.sub.nils_no _ | exact V.sub.nils _) .nil)) (Compare_ok _ _)) ?_
    refine S.gsil 71 23 67 true rfl rfl rfl (lk 3 rfl rfl) (fun hB _ => .geq (ifT hB (lk 0 rfl rfl)) cI) ?_
    refine S.sil 72 rfl rfl (fun _ => .pickAnd (lk 4 rfl rfl) (fun h => ifT h (lk 0 rfl rfl)) cB) ?_
    refine S.sil 73 rfl rfl (fun _ => .move (lk 0 rfl rfl)) ?_
    first | refine S.gqui 74 29 73 true rfl rfl rfl (lk 0 rfl rfl) (fun hB _ => .load sz23 ag23 (lk 63 rfl rfl) (by first | rfl | simp) rfl rfl (by first | rfl | simp) (by first | rfl | simp)) ?_ | refine S.gsil 74 29 73 true rfl rfl rfl (lk 0 rfl rfl) (fun hB _ => .loadC sz23 ag23 (lk 63 rfl rfl) (by first | rfl | simp) (by first | rfl | simp)) ?_
    first | refine S.gqui 75 29 73 true rfl rfl rfl (lk 1 rfl rfl) (fun hB _ => .load sz23 ag23 (lk 70 rfl rfl) (by first | rfl | simp) rfl rfl (by first | rfl | simp) (by first | rfl | simp)) ?_ | refine S.gsil 75 29 73 true rfl rfl rfl (lk 1 rfl rfl) (fun hB _ => .loadC sz23 ag23 (lk 70 rfl rfl) (by first | rfl | simp) (by first | rfl | simp)) ?_
    refine S.gsil 76 29 73 true rfl rfl rfl (lk 2 rfl rfl) (fun hB _ => .callQ ent9 cF (.c (ifT hB (lk 1 rfl rfl)) (by first | exact V.sub.refl _ | exact V.sub.forget _ _ _ | exact V.sub.nils_no _ | exact V.sub.nils _) (.c (ifT hB (lk 0 rfl rfl)) (by first | exact V.sub.refl _ | exact V.sub.forget _ _ _ | exact V.sub.nils_no _ | exact V.sub.nils _) .nil)) (Compare_ok _ _)) ?_
    refine S.gsil 77 29 73 true rfl rfl rfl (lk 3 rfl rfl) (fun hB _ => .geq (ifT hB (lk 0 rfl rfl)) cI) ?_
    refine S.sil 78 rfl rfl (fun _ => .pickAnd (lk 4 rfl rfl) (fun h => ifT h (lk 0 rfl rfl)) cB) ?_
    refine S.sil 79 rfl rfl (fun _ => .move (lk 0 rfl rfl)) ?_
    refine S.gsil 80 35 79 true rfl rfl rfl (lk 0 rfl rfl) (fun hB _ => .callQ ent10 cF .nil (awake_ok)) ?_
    refine S.sil 81 rfl rfl (fun _ => .pickAnd (lk 1 rfl rfl) (fun h => ifT h (lk 0 rfl rfl)) cB) ?_
    refine S.sil 6 rfl rfl (fun _ => .assign (lk 0 rfl rfl)) ?_
    refine S.nilD (by kernel_rfl) ?_
    refine thenQ_n ?_
    refine AWp.ret ?_
    refine end1 rfl (lk 0 rfl rfl) rfl (by first | rfl | simp []) ?_
    exact congrArg V.bool (lawJoins1 a b c)

theorem LockSteps_ok (l : Lock) (k to n : Int) : PureC Pg 8 [encLock l, .int .i64 k, .int .i64 to, .int .i64 n] (.bool true) := by
  refine PureC.of (CallSpec.of_body 114 0 Try.func8 rfl rfl rfl (by simp) ?_) (by simp []) (by simp [])
  refine AWp.seq ?_
  refine W.reg [0, 1] rfl ?_
  refine S.new 4 rfl rfl (.box (lk 0 rfl rfl) rfl) ?_
  refine S.sil 8 rfl rfl (fun _ => .assign cB) ?_
  refine S.nil ?_
  refine thenQ_n ?_
  refine AWp.seq ?_
  refine AWp.seq ?_
  refine W.reg [0, 1, 2] rfl ?_
  first | refine S.qui 13 rfl rfl (fun _ => .load sz23 ag23 (lk 1 rfl rfl) (by first | rfl | simp) rfl rfl (by first | rfl | simp) (by first | rfl | simp)) ?_ | refine S.sil 13 rfl rfl (fun _ => .loadC sz23 ag23 (lk 1 rfl rfl) (by first | rfl | simp) (by first | rfl | simp)) ?_
  refine S.sil 14 rfl rfl (fun _ => .callQ ent17 cF (.c (lk 0 rfl rfl) (by first | exact V.sub.refl _ | exact V.sub.forget _ _ _ | exact V.sub.nils_no _ | exact V.sub.nils _) .nil) (Right_ok _)) ?_
  refine S.sil 15 rfl rfl (fun _ => .not (lk 0 rfl rfl)) ?_
  refine S.nil ?_
  refine thenQ_n ?_
  refine AWp.cond (lk 0 rfl rfl) (fun c0 => ?_) (fun c0 => ?_)
  · try simp only [decide_eq_true_eq, decide_eq_false_iff_not, Bool.not_eq_true', Bool.not_eq_false', Bool.and_eq_true, Bool.or_eq_true, Bool.and_eq_false_iff, Bool.or_eq_false_iff, Bool.not_eq_true, Bool.not_eq_false, ite_eq_left_iff] at c0
    refine AWp.seq ?_
    refine W.reg [0, 1] rfl ?_
    refine S.sil 16 rfl rfl (fun _ => .callQ ent10 cF .nil (awake_ok)) ?_
    refine S.sil 8 rfl rfl (fun _ => .assign (lk 0 rfl rfl)) ?_
    refine S.nil ?_
    refine thenQ_n ?_
    refine AWp.ret ?_
    refine thenQ_r ?_
    refine end1 rfl (lk 0 rfl rfl) rfl (by first | rfl | simp []) ?_
    rfl
  · try simp only [decide_eq_true_eq, decide_eq_false_iff_not, Bool.not_eq_true', Bool.not_eq_false', Bool.and_eq_true, Bool.or_eq_true, Bool.and_eq_false_iff, Bool.or_eq_false_iff, Bool.not_eq_true, Bool.not_eq_false, ite_eq_left_iff] at c0
    refine AWp.skip ?_
    refine thenQ_n ?_
    refine AWp.seq ?_
    refine W.reg [0, 1, 2, 3, 4, 5, 6, 7, 8, 9] rfl ?_
    first | refine S.qui 18 rfl rfl (fun _ => .load sz23 ag23 (lk 4 rfl rfl) (by first | rfl | simp) rfl rfl (by first | rfl | simp) (by first | rfl | simp)) ?_ | refine S.sil 18 rfl rfl (fun _ => .loadC sz23 ag23 (lk 4 rfl rfl) (by first | rfl | simp) (by first | rfl | simp)) ?_
    refine S.sil 19 rfl rfl (fun _ => .move (lk 7 rfl rfl)) ?_
    refine S.sil 20 rfl rfl (fun _ => .move (lk 10 rfl rfl)) ?_
    refine S.sil 21 rfl rfl (fun _ => .callQ ent15 cF (.c (lk 2 rfl rfl) (by first | exact V.sub.refl _ | exact V.sub.forget _ _ _ | exact V.sub.nils_no _ | exact V.sub.nils _) (.c (lk 1 rfl rfl) (by first | exact V.sub.refl _ | exact V.sub.forget _ _ _ | exact V.sub.nils_no _ | exact V.sub.nils _) (.c (lk 0 rfl rfl) (by first | exact V.sub.refl _ | exact V.sub.forget _ _ _ | exact V.sub.nils_no _ | exact V.sub.nils _) .nil))) (Write_ok _ _ _)) ?_
    refine S.sil 17 rfl rfl (fun _ => .move (lk 0 rfl rfl)) ?_
    refine S.sil 22 rfl rfl (fun _ => .extract (lk 0 rfl rfl) rfl) ?_
    refine S.sil 23 rfl rfl (fun _ => .extract (lk 1 rfl rfl) rfl) ?_
    refine S.new 9 rfl rfl (.alloc zv23) ?_
    refine S.effN rfl rfl (.store sz23 (lk 0 rfl rfl) (lk 2 rfl rfl) rfl rfl rfl rfl (by first | rfl | simp) (by first | rfl | simp)) ?_
    refine S.sil 10 rfl rfl (fun _ => .assign (lk 1 rfl rfl)) ?_
    refine S.nil ?_
    refine thenQ_n ?_
    refine AWp.seq ?_
    refine W.reg [0, 1, 2, 3, 4, 5, 6, 7, 8, 9] rfl ?_
    first | refine S.qui 25 rfl rfl (fun _ => .load sz23 ag23 (lk 13 rfl rfl) (by first | rfl | simp) rfl rfl (by first | rfl | simp) (by first | rfl | simp)) ?_ | refine S.sil 25 rfl rfl (fun _ => .loadC sz23 ag23 (lk 13 rfl rfl) (by first | rfl | simp) (by first | rfl | simp)) ?_
    refine S.sil 26 rfl rfl (fun _ => .move (lk 16 rfl rfl)) ?_
    refine S.sil 27 rfl rfl (fun _ => .move (lk 18 rfl rfl)) ?_
    refine S.sil 28 rfl rfl (fun _ => .callQ ent16 cF (.c (lk 2 rfl rfl) (by first | exact V.sub.refl _ | exact V.sub.forget _ _ _ | exact V.sub.nils_no _ | exact V.sub.nils _) (.c (lk 1 rfl rfl) (by first | exact V.sub.refl _ | exact V.sub.forget _ _ _ | exact V.sub.nils_no _ | exact V.sub.nils _) (.c (lk 0 rfl rfl) (by first | exact V.sub.refl _ | exact V.sub.forget _ _ _ | exact V.sub.nils_no _ | exact V.sub.nils _) .nil))) (Pass_ok _ _ _)) ?_
    refine S.sil 24 rfl rfl (fun _ => .move (lk 0 rfl rfl)) ?_
    refine S.sil 29 rfl rfl (fun _ => .extract (lk 0 rfl rfl) rfl) ?_
    refine S.sil 30 rfl rfl (fun _ => .extract (lk 1 rfl rfl) rfl) ?_
    refine S.new 11 rfl rfl (.alloc zv23) ?_
    refine S.effN rfl rfl (.store sz23 (lk 0 rfl rfl) (lk 2 rfl rfl) rfl rfl rfl rfl (by first | rfl | simp) (by first | rfl | simp)) ?_
    refine S.sil 12 rfl rfl (fun _ => .assign (lk 1 rfl rfl)) ?_
    refine S.nil ?_
    refine thenQ_n ?_
    refine AWp.seq ?_
    refine AWp.seq ?_
    refine W.reg [0, 1, 2, 3] rfl ?_
    refine S.sil 31 rfl rfl (fun _ => .move (lk 24 rfl rfl)) ?_
    first | refine S.sil 32 rfl rfl (fun _ => .fieldAddr lay23 rfl rfl (lk 23 rfl rfl)) ?_ | refine S.sil 32 rfl rfl (fun _ => .fieldAddrC lay23 rfl rfl (lk 23 rfl rfl) rfl (by first | rfl | simp)) ?_
    first | refine S.qui 33 rfl rfl (fun _ => .load sz3 ag3 (lk 0 rfl rfl) (by first | rfl | simp) rfl rfl (by first | rfl | simp) (by first | rfl | simp)) ?_ | refine S.sil 33 rfl rfl (fun _ => .loadC sz3 ag3 (lk 0 rfl rfl) (by first | rfl | simp) (by first | rfl | simp)) ?_
    refine S.sil 34 rfl rfl (fun _ => .neq (lk 2 rfl rfl) (lk 0 rfl rfl)) ?_
    refine S.nil ?_
    refine thenQ_n ?_
    refine AWp.cond (lk 0 rfl rfl) (fun c1 => ?_) (fun c1 => ?_)
    · try simp only [decide_eq_true_eq, decide_eq_false_iff_not, Bool.not_eq_true', Bool.not_eq_false', Bool.and_eq_true, Bool.or_eq_true, Bool.and_eq_false_iff, Bool.or_eq_false_iff, Bool.not_eq_true, Bool.not_eq_false, ite_eq_left_iff] at c1
      refine AWp.seq ?_
      refine W.reg [0, 1, 2, 3, 4, 5, 6, 7, 8, 9] rfl ?_
      refine S.sil 35 rfl rfl (fun _ => .move (lk 13 rfl rfl)) ?_
      refine S.sil 36 rfl rfl (fun _ => .eql (lk 0 rfl rfl) cI) ?_
      refine S.sil 37 rfl rfl (fun _ => .move (lk 0 rfl rfl)) ?_
      refine S.gsil 38 2 37 true rfl rfl rfl (lk 0 rfl rfl) (fun hB _ => .move (lk 7 rfl rfl)) ?_
      refine S.gsil 39 2 37 true rfl rfl rfl (lk 1 rfl rfl) (fun hB _ => .eql (ifT hB (lk 0 rfl rfl)) cI) ?_
      refine S.sil 40 rfl rfl (fun _ => .pickAnd (lk 2 rfl rfl) (fun h => ifT h (lk 0 rfl rfl)) cB) ?_
      refine S.sil 41 rfl rfl (fun _ => .move (lk 0 rfl rfl)) ?_
      refine S.gsil 42 6 41 true rfl rfl rfl (lk 0 rfl rfl) (fun hB _ => .callQ ent10 cF .nil (awake_ok)) ?_
      refine S.sil 43 rfl rfl (fun _ => .pickAnd (lk 1 rfl rfl) (fun h => ifT h (lk 0 rfl rfl)) cB) ?_
      refine S.sil 8 rfl rfl (fun _ => .assign (lk 0 rfl rfl)) ?_
      refine S.nil ?_
      refine thenQ_n ?_
      refine AWp.ret ?_
      refine thenQ_r ?_
      refine end1 rfl (lk 0 rfl rfl) rfl (by first | rfl | simp []) ?_
      simp [writeLock, passLock, c1]
    · try simp only [decide_eq_true_eq, decide_eq_false_iff_not, Bool.not_eq_true', Bool.not_eq_false', Bool.and_eq_true, Bool.or_eq_true, Bool.and_eq_false_iff, Bool.or_eq_false_iff, Bool.not_eq_true, Bool.not_eq_false, ite_eq_left_iff] at c1
      refine AWp.skip ?_
      refine thenQ_n ?_
      refine AWp.seq ?_
      refine AWp.seq ?_
      refine W.regD [0, 1, 2, 3, 4, 5, 6, 7, 8, 9, 10, 11, 12, 13, 14, 15, 16, 17, 18, 19, 20, 21, 22, 23, 24, 25, 26, 27, 28, 29, 30, 31, 32] mixed ?_
      refine S.sil 44 rfl rfl (fun _ => .move (lk 13 rfl rfl)) ?_
      refine S.sil 45 rfl rfl (fun _ => .eql (lk 0 rfl rfl) cI) ?_
      refine S.sil 46 rfl rfl (fun _ => .move (lk 0 rfl rfl)) ?_
      first | refine S.gqui 47 2 46 true rfl rfl rfl (lk 0 rfl rfl) (fun hB _ => .load sz23 ag23 (lk 17 rfl rfl) (by first | rfl | simp) rfl rfl (by first | rfl | simp) (by first | rfl | simp)) ?_ | refine S.gsil 47 2 46 true rfl rfl rfl (lk 0 rfl rfl) (fun hB _ => .loadC sz23 ag23 (lk 17 rfl rfl) (by first | rfl | simp) (by first | rfl | simp)) ?_
      first | refine S.gqui 48 2 46 true rfl rfl rfl (lk 1 rfl rfl) (fun hB _ => .load sz23 ag23 (lk 30 rfl rfl) (by first | rfl | simp) rfl rfl (by first | rfl | simp) (by first | rfl | simp)) ?_ | refine S.gsil 48 2 46 true rfl rfl rfl (lk 1 rfl rfl) (fun hB _ => .loadC sz23 ag23 (lk 30 rfl rfl) (by first | rfl | simp) (by first | rfl | simp)) ?_
      refine S.gsil 49 2 46 true rfl rfl rfl (lk 2 rfl rfl) (fun hB _ => .callQ ent9 cF (.c (ifT hB (lk 1 rfl rfl)) (by first | exact V.sub.refl _ | exact V.sub.forget _ _ _ | exact V.sub.nils_no _ | exact V.sub.nils _) (.c (ifT hB (lk 0 rfl rfl)) (by first | exact V.sub.refl _ | exact V.sub.forget _ _ _ | exact V.sub.nils_no _ | exact V.sub.nils _) .nil)) (Compare_ok _ _)) ?_
      refine S.gsil 50 2 46 true rfl rfl rfl (lk 3 rfl rfl) (fun hB _ => .leq (ifT hB (lk 0 rfl rfl)) cI) ?_
      refine S.gsil 51 2 46 true rfl rfl rfl (lk 4 rfl rfl) (fun hB _ => .move (ifT hB (lk 0 rfl rfl))) ?_
      first | refine S.gqui2 52 7 51 false rfl rfl rfl (lk 0 rfl rfl) (fun hB _ => .load sz23 ag23 (lk 22 rfl rfl) (by first | rfl | simp) rfl rfl (by first | rfl | simp) (by first | rfl | simp)) ?_ | refine S.gsil2 52 7 51 false rfl rfl rfl (lk 0 rfl rfl) (fun hB _ => .loadC sz23 ag23 (lk 22 rfl rfl) (by first | rfl | simp) (by first | rfl | simp)) ?_
      refine S.gsil2 53 7 51 false rfl rfl rfl (lk 1 rfl rfl) (fun hB _ => .callQ ent17 cF (.c (ifT hB (lk 0 rfl rfl)) (by first | exact V.sub.refl _ | exact V.sub.forget _ _ _ | exact V.sub.nils_no _ | exact V.sub.nils _) .nil) (Right_ok _)) ?_
      refine S.gsil2 54 7 51 false rfl rfl rfl (lk 2 rfl rfl) (fun hB _ => .not (ifT hB (lk 0 rfl rfl))) ?_
      refine S.gsil 55 2 46 true rfl rfl rfl (lk 8 rfl rfl) (fun hB _ => .pickOr (ifT hB (lk 3 rfl rfl)) cB (fun h => ifT ⟨hB, h⟩ (lk 0 rfl rfl))) ?_
      refine S.gsil 56 2 46 true rfl rfl rfl (lk 9 rfl rfl) (fun hB _ => .move (ifT hB (lk 0 rfl rfl))) ?_
      first | refine S.gsil2 57 12 56 false rfl rfl rfl (lk 0 rfl rfl) (fun hB _ => .fieldAddr lay23 rfl rfl (lk 27 rfl rfl)) ?_ | refine S.gsil2 57 12 56 false rfl rfl rfl (lk 0 rfl rfl) (fun hB _ => .fieldAddrC lay23 rfl rfl (lk 27 rfl rfl) rfl (by first | rfl | simp)) ?_
      first | refine S.gqui2 58 12 56 false rfl rfl rfl (lk 1 rfl rfl) (fun hB _ => .load sz3 ag3 (ifT hB (lk 0 rfl rfl)) (by first | rfl | simp) rfl rfl (by first | rfl | simp) (by first | rfl | simp)) ?_ | refine S.gsil2 58 12 56 false rfl rfl rfl (lk 1 rfl rfl) (fun hB _ => .loadC sz3 ag3 (ifT hB (lk 0 rfl rfl)) (by first | rfl | simp) (by first | rfl | simp)) ?_
      refine S.gsil2 59 12 56 false rfl rfl rfl (lk 2 rfl rfl) (fun hB _ => .move (lk 45 rfl rfl)) ?_
      refine S.gsil2 60 12 56 false rfl rfl rfl (lk 3 rfl rfl) (fun hB _ => .neq (ifT hB (lk 1 rfl rfl)) (ifT hB (lk 0 rfl rfl))) ?_
      refine S.gsil 61 2 46 true rfl rfl rfl (lk 14 rfl rfl) (fun hB _ => .pickOr (ifT hB (lk 4 rfl rfl)) cB (fun h => ifT ⟨hB, h⟩ (lk 0 rfl rfl))) ?_
      refine S.gsil 62 2 46 true rfl rfl rfl (lk 15 rfl rfl) (fun hB _ => .move (ifT hB (lk 0 rfl rfl))) ?_
      first | refine S.gsil2 63 18 62 false rfl rfl rfl (lk 0 rfl rfl) (fun hB _ => .fieldAddr lay23 rfl rfl (lk 33 rfl rfl)) ?_ | refine S.gsil2 63 18 62 false rfl rfl rfl (lk 0 rfl rfl) (fun hB _ => .fieldAddrC lay23 rfl rfl (lk 33 rfl rfl) rfl (by first | rfl | simp)) ?_
      first | refine S.gqui2 64 18 62 false rfl rfl rfl (lk 1 rfl rfl) (fun hB _ => .load sz3 ag3 (ifT hB (lk 0 rfl rfl)) (by first | rfl | simp) rfl rfl (by first | rfl | simp) (by first | rfl | simp)) ?_ | refine S.gsil2 64 18 62 false rfl rfl rfl (lk 1 rfl rfl) (fun hB _ => .loadC sz3 ag3 (ifT hB (lk 0 rfl rfl)) (by first | rfl | simp) (by first | rfl | simp)) ?_
      first | refine S.gsil2 65 18 62 false rfl rfl rfl (lk 2 rfl rfl) (fun hB _ => .fieldAddr lay23 rfl rfl (lk 47 rfl rfl)) ?_ | refine S.gsil2 65 18 62 false rfl rfl rfl (lk 2 rfl rfl) (fun hB _ => .fieldAddrC lay23 rfl rfl (lk 47 rfl rfl) rfl (by first | rfl | simp)) ?_
      first | refine S.gqui2 66 18 62 false rfl rfl rfl (lk 3 rfl rfl) (fun hB _ => .load sz3 ag3 (ifT hB (lk 0 rfl rfl)) (by first | rfl | simp) rfl rfl (by first | rfl | simp) (by first | rfl | simp)) ?_ | refine S.gsil2 66 18 62 false rfl rfl rfl (lk 3 rfl rfl) (fun hB _ => .loadC sz3 ag3 (ifT hB (lk 0 rfl rfl)) (by first | rfl | simp) (by first | rfl | simp)) ?_
      refine S.gsil2 67 18 62 false rfl rfl rfl (lk 4 rfl rfl) (fun hB _ => .neq (ifT hB (lk 2 rfl rfl)) (ifT hB (lk 0 rfl rfl))) ?_
      refine S.gsil 68 2 46 true rfl rfl rfl (lk 21 rfl rfl) (fun hB _ => .pickOr (ifT hB (lk 5 rfl rfl)) cB (fun h => ifT ⟨hB, h⟩ (lk 0 rfl rfl))) ?_
      refine S.gsil 69 2 46 true rfl rfl rfl (lk 22 rfl rfl) (fun hB _ => .move (ifT hB (lk 0 rfl rfl))) ?_
      first | refine S.gqui2 70 25 69 false rfl rfl rfl (lk 0 rfl rfl) (fun hB _ => .load sz23 ag23 (lk 52 rfl rfl) (by first | rfl | simp) rfl rfl (by first | rfl | simp) (by first | rfl | simp)) ?_ | refine S.gsil2 70 25 69 false rfl rfl rfl (lk 0 rfl rfl) (fun hB _ => .loadC sz23 ag23 (lk 52 rfl rfl) (by first | rfl | simp) (by first | rfl | simp)) ?_
      first | refine S.gqui2 71 25 69 false rfl rfl rfl (lk 1 rfl rfl) (fun hB _ => .load sz23 ag23 (lk 41 rfl rfl) (by first | rfl | simp) rfl rfl (by first | rfl | simp) (by first | rfl | simp)) ?_ | refine S.gsil2 71 25 69 false rfl rfl rfl (lk 1 rfl rfl) (fun hB _ => .loadC sz23 ag23 (lk 41 rfl rfl) (by first | rfl | simp) (by first | rfl | simp)) ?_
      refine S.gsil2 72 25 69 false rfl rfl rfl (lk 2 rfl rfl) (fun hB _ => .callQ ent11 cF (.c (ifT hB (lk 1 rfl rfl)) (by first | exact V.sub.refl _ | exact V.sub.forget _ _ _ | exact V.sub.nils_no _ | exact V.sub.nils _) (.c (ifT hB (lk 0 rfl rfl)) (by first | exact V.sub.refl _ | exact V.sub.forget _ _ _ | exact V.sub.nils_no _ | exact V.sub.nils _) .nil)) (Join_ok _ _)) ?_
      first | refine S.gqui2 73 25 69 false rfl rfl rfl (lk 3 rfl rfl) (fun hB _ => .load sz23 ag23 (lk 43 rfl rfl) (by first | rfl | simp) rfl rfl (by first | rfl | simp) (by first | rfl | simp)) ?_ | refine S.gsil2 73 25 69 false rfl rfl rfl (lk 3 rfl rfl) (fun hB _ => .loadC sz23 ag23 (lk 43 rfl rfl) (by first | rfl | simp) (by first | rfl | simp)) ?_
      refine S.gsil2 74 25 69 false rfl rfl rfl (lk 4 rfl rfl) (fun hB _ => .neqV eqt23 (ifT hB (lk 1 rfl rfl)) (ifT hB (lk 0 rfl rfl)) (by first | rfl | simp) (by first | rfl | simp) rfl rfl) ?_
      refine S.gsil 75 2 46 true rfl rfl rfl (lk 28 rfl rfl) (fun hB _ => .pickOr (ifT hB (lk 5 rfl rfl)) cB (fun h => ifT ⟨hB, h⟩ (lk 0 rfl rfl))) ?_
      refine S.sil 76 rfl rfl (fun _ => .pickAnd (lk 29 rfl rfl) (fun h => ifT h (lk 0 rfl rfl)) cB) ?_
      refine S.nilD (by kernel_rfl) ?_
      refine thenQ_n ?_
      refine AWp.cond (lk 0 rfl rfl) (fun c2 => ?_) (fun c2 => ?_)
      · try simp only [decide_eq_true_eq, decide_eq_false_iff_not, Bool.not_eq_true', Bool.not_eq_false', Bool.and_eq_true, Bool.or_eq_true, Bool.and_eq_false_iff, Bool.or_eq_false_iff, Bool.not_eq_true, Bool.not_eq_false, ite_eq_left_iff] at c2
        refine AWp.seq ?_
        refine W.reg [0] rfl ?_
        refine S.sil 8 rfl rfl (fun _ => .assign cB) ?_
        refine S.nil ?_
        refine thenQ_n ?_
        refine AWp.ret ?_
        refine thenQ_r ?_
        refine end1 rfl (lk 0 rfl rfl) rfl (by first | rfl | simp []) ?_
        exact absurd c2 (lawSteps2 c0 c1)
      · try simp only [decide_eq_true_eq, decide_eq_false_iff_not, Bool.not_eq_true', Bool.not_eq_false', Bool.and_eq_true, Bool.or_eq_true, Bool.and_eq_false_iff, Bool.or_eq_false_iff, Bool.not_eq_true, Bool.not_eq_false, ite_eq_left_iff] at c2
        refine AWp.skip ?_
        refine thenQ_n ?_
        refine AWp.seq ?_
        refine AWp.seq ?_
        refine W.reg [0, 1, 2, 3, 4, 5, 6, 7, 8, 9, 10, 11, 12, 13, 14, 15, 16, 17, 18, 19, 20, 21, 22, 23, 24, 25, 26, 27, 28, 29, 30, 31, 32, 33, 34, 35] rfl ?_
        refine S.sil 77 rfl rfl (fun _ => .move (lk 37 rfl rfl)) ?_
        refine S.sil 78 rfl rfl (fun _ => .eql (lk 0 rfl rfl) cI) ?_
        refine S.sil 79 rfl rfl (fun _ => .move (lk 0 rfl rfl)) ?_
        first | refine S.gqui 80 2 79 true rfl rfl rfl (lk 0 rfl rfl) (fun hB _ => .load sz23 ag23 (lk 41 rfl rfl) (by first | rfl | simp) rfl rfl (by first | rfl | simp) (by first | rfl | simp)) ?_ | refine S.gsil 80 2 79 true rfl rfl rfl (lk 0 rfl rfl) (fun hB _ => .loadC sz23 ag23 (lk 41 rfl rfl) (by first | rfl | simp) (by first | rfl | simp)) ?_
        first | refine S.gqui 81 2 79 true rfl rfl rfl (lk 1 rfl rfl) (fun hB _ => .load sz23 ag23 (lk 63 rfl rfl) (by first | rfl | simp) rfl rfl (by first | rfl | simp) (by first | rfl | simp)) ?_ | refine S.gsil 81 2 79 true rfl rfl rfl (lk 1 rfl rfl) (fun hB _ => .loadC sz23 ag23 (lk 63 rfl rfl) (by first | rfl | simp) (by first | rfl | simp)) ?_
        refine S.gsil 82 2 79 true rfl rfl rfl (lk 2 rfl rfl) (fun hB _ => .callQ ent9 cF (.c (ifT hB (lk 1 rfl rfl)) (by first | exact V.sub.refl _ | exact V.sub.forget _ _ _ | exact V.sub.nils_no _ | exact V.sub.nils _) (.c (ifT hB (lk 0 rfl rfl)) (by first | exact V.sub.refl _ | exact V.sub.forget _ _ _ | exact V.sub.nils_no _ | exact V.sub.nils _) .nil)) (Compare_ok _ _)) ?_
        refine S.gsil 83 2 79 true rfl rfl rfl (lk 3 rfl rfl) (fun hB _ => .leq (ifT hB (lk 0 rfl rfl)) cI) ?_
        refine S.gsil 84 2 79 true rfl rfl rfl (lk 4 rfl rfl) (fun hB _ => .move (ifT hB (lk 0 rfl rfl))) ?_
        first | refine S.gqui2 85 7 84 false rfl rfl rfl (lk 0 rfl rfl) (fun hB _ => .load sz23 ag23 (lk 46 rfl rfl) (by first | rfl | simp) rfl rfl (by first | rfl | simp) (by first | rfl | simp)) ?_ | refine S.gsil2 85 7 84 false rfl rfl rfl (lk 0 rfl rfl) (fun hB _ => .loadC sz23 ag23 (lk 46 rfl rfl) (by first | rfl | simp) (by first | rfl | simp)) ?_
        refine S.gsil2 86 7 84 false rfl rfl rfl (lk 1 rfl rfl) (fun hB _ => .callQ ent17 cF (.c (ifT hB (lk 0 rfl rfl)) (by first | exact V.sub.refl _ | exact V.sub.forget _ _ _ | exact V.sub.nils_no _ | exact V.sub.nils _) .nil) (Right_ok _)) ?_
        refine S.gsil2 87 7 84 false rfl rfl rfl (lk 2 rfl rfl) (fun hB _ => .not (ifT hB (lk 0 rfl rfl))) ?_
        refine S.gsil 88 2 79 true rfl rfl rfl (lk 8 rfl rfl) (fun hB _ => .pickOr (ifT hB (lk 3 rfl rfl)) cB (fun h => ifT ⟨hB, h⟩ (lk 0 rfl rfl))) ?_
        refine S.gsil 89 2 79 true rfl rfl rfl (lk 9 rfl rfl) (fun hB _ => .move (ifT hB (lk 0 rfl rfl))) ?_
        first | refine S.gsil2 90 12 89 false rfl rfl rfl (lk 0 rfl rfl) (fun hB _ => .fieldAddr lay23 rfl rfl (lk 51 rfl rfl)) ?_ | refine S.gsil2 90 12 89 false rfl rfl rfl (lk 0 rfl rfl) (fun hB _ => .fieldAddrC lay23 rfl rfl (lk 51 rfl rfl) rfl (by first | rfl | simp)) ?_
        first | refine S.gqui2 91 12 89 false rfl rfl rfl (lk 1 rfl rfl) (fun hB _ => .load sz3 ag3 (ifT hB (lk 0 rfl rfl)) (by first | rfl | simp) rfl rfl (by first | rfl | simp) (by first | rfl | simp)) ?_ | refine S.gsil2 91 12 89 false rfl rfl rfl (lk 1 rfl rfl) (fun hB _ => .loadC sz3 ag3 (ifT hB (lk 0 rfl rfl)) (by first | rfl | simp) (by first | rfl | simp)) ?_
        first | refine S.gsil2 92 12 89 false rfl rfl rfl (lk 2 rfl rfl) (fun hB _ => .fieldAddr lay23 rfl rfl (lk 74 rfl rfl)) ?_ | refine S.gsil2 92 12 89 false rfl rfl rfl (lk 2 rfl rfl) (fun hB _ => .fieldAddrC lay23 rfl rfl (lk 74 rfl rfl) rfl (by first | rfl | simp)) ?_
        first | refine S.gqui2 93 12 89 false rfl rfl rfl (lk 3 rfl rfl) (fun hB _ => .load sz3 ag3 (ifT hB (lk 0 rfl rfl)) (by first | rfl | simp) rfl rfl (by first | rfl | simp) (by first | rfl | simp)) ?_ | refine S.gsil2 93 12 89 false rfl rfl rfl (lk 3 rfl rfl) (fun hB _ => .loadC sz3 ag3 (ifT hB (lk 0 rfl rfl)) (by first | rfl | simp) (by first | rfl | simp)) ?_
        refine S.gsil2 94 12 89 false rfl rfl rfl (lk 4 rfl rfl) (fun hB _ => .neq (ifT hB (lk 2 rfl rfl)) (ifT hB (lk 0 rfl rfl))) ?_
        refine S.gsil 95 2 79 true rfl rfl rfl (lk 15 rfl rfl) (fun hB _ => .pickOr (ifT hB (lk 5 rfl rfl)) cB (fun h => ifT ⟨hB, h⟩ (lk 0 rfl rfl))) ?_
        refine S.gsil 96 2 79 true rfl rfl rfl (lk 16 rfl rfl) (fun hB _ => .move (ifT hB (lk 0 rfl rfl))) ?_
        first | refine S.gsil2 97 19 96 false rfl rfl rfl (lk 0 rfl rfl) (fun hB _ => .fieldAddr lay23 rfl rfl (lk 58 rfl rfl)) ?_ | refine S.gsil2 97 19 96 false rfl rfl rfl (lk 0 rfl rfl) (fun hB _ => .fieldAddrC lay23 rfl rfl (lk 58 rfl rfl) rfl (by first | rfl | simp)) ?_
        first | refine S.gqui2 98 19 96 false rfl rfl rfl (lk 1 rfl rfl) (fun hB _ => .load sz3 ag3 (ifT hB (lk 0 rfl rfl)) (by first | rfl | simp) rfl rfl (by first | rfl | simp) (by first | rfl | simp)) ?_ | refine S.gsil2 98 19 96 false rfl rfl rfl (lk 1 rfl rfl) (fun hB _ => .loadC sz3 ag3 (ifT hB (lk 0 rfl rfl)) (by first | rfl | simp) (by first | rfl | simp)) ?_
        refine S.gsil2 99 19 96 false rfl rfl rfl (lk 2 rfl rfl) (fun hB _ => .move (lk 84 rfl rfl)) ?_
        refine S.gsil2 100 19 96 false rfl rfl rfl (lk 3 rfl rfl) (fun hB _ => .neq (ifT hB (lk 1 rfl rfl)) (ifT hB (lk 0 rfl rfl))) ?_
        refine S.gsil 101 2 79 true rfl rfl rfl (lk 21 rfl rfl) (fun hB _ => .pickOr (ifT hB (lk 4 rfl rfl)) cB (fun h => ifT ⟨hB, h⟩ (lk 0 rfl rfl))) ?_
        refine S.gsil 102 2 79 true rfl rfl rfl (lk 22 rfl rfl) (fun hB _ => .move (ifT hB (lk 0 rfl rfl))) ?_
        refine S.gsil2 103 25 102 false rfl rfl rfl (lk 0 rfl rfl) (fun hB _ => .move (lk 72 rfl rfl)) ?_
        refine S.gsil2 104 25 102 false rfl rfl rfl (lk 1 rfl rfl) (fun hB _ => .eql (ifT hB (lk 0 rfl rfl)) cI) ?_
        refine S.gsil2 105 25 102 false rfl rfl rfl (lk 2 rfl rfl) (fun hB _ => .move (ifT hB (lk 0 rfl rfl))) ?_
        first | refine S.gqui2 106 28 105 true rfl rfl rfl (lk 0 rfl rfl) (fun hB _ => .load sz23 ag23 (lk 67 rfl rfl) (by first | rfl | simp) rfl rfl (by first | rfl | simp) (by first | rfl | simp)) ?_ | refine S.gsil2 106 28 105 true rfl rfl rfl (lk 0 rfl rfl) (fun hB _ => .loadC sz23 ag23 (lk 67 rfl rfl) (by first | rfl | simp) (by first | rfl | simp)) ?_
        first | refine S.gqui2 107 28 105 true rfl rfl rfl (lk 1 rfl rfl) (fun hB _ => .load sz23 ag23 (lk 77 rfl rfl) (by first | rfl | simp) rfl rfl (by first | rfl | simp) (by first | rfl | simp)) ?_ | refine S.gsil2 107 28 105 true rfl rfl rfl (lk 1 rfl rfl) (fun hB _ => .loadC sz23 ag23 (lk 77 rfl rfl) (by first | rfl | simp) (by first | rfl | simp)) ?_
        refine S.gsil2 108 28 105 true rfl rfl rfl (lk 2 rfl rfl) (fun hB _ => .callQ ent9 cF (.c (ifT hB (lk 1 rfl rfl)) (by first | exact V.sub.refl _ | exact V.sub.forget _ _ _ | exact V.sub.nils_no _ | exact V.sub.nils _) (.c (ifT hB (lk 0 rfl rfl)) (by first | exact V.sub.refl _ | exact V.sub.forget _ _ _ | exact V.sub.nils_no _ | exact V.sub.nils _) .nil)) (Compare_ok _ _)) ?_
        refine S.gsil2 109 28 105 true rfl rfl rfl (lk 3 rfl rfl) (fun hB _ => .leq (ifT hB (lk 0 rfl rfl)) cI) ?_
        refine S.gsil2 110 25 102 false rfl rfl rfl (lk 7 rfl rfl) (fun hB _ => .pickAnd (ifT hB (lk 4 rfl rfl)) (fun h => ifT ⟨hB, h⟩ (lk 0 rfl rfl)) cB) ?_
        refine S.gsil 111 2 79 true rfl rfl rfl (lk 31 rfl rfl) (fun hB _ => .pickOr (ifT hB (lk 8 rfl rfl)) cB (fun h => ifT ⟨hB, h⟩ (lk 0 rfl rfl))) ?_
        refine S.sil 112 rfl rfl (fun _ => .pickAnd (lk 32 rfl rfl) (fun h => ifT h (lk 0 rfl rfl)) cB) ?_
        refine S.nil ?_
        refine thenQ_n ?_
        refine AWp.cond (lk 0 rfl rfl) (fun c3 => ?_) (fun c3 => ?_)
        · try simp only [decide_eq_true_eq, decide_eq_false_iff_not, Bool.not_eq_true', Bool.not_eq_false', Bool.and_eq_true, Bool.or_eq_true, Bool.and_eq_false_iff, Bool.or_eq_false_iff, Bool.not_eq_true, Bool.not_eq_false, ite_eq_left_iff] at c3
          refine AWp.seq ?_
          refine W.reg [0] rfl ?_
          refine S.sil 8 rfl rfl (fun _ => .assign cB) ?_
          refine S.nil ?_
          refine thenQ_n ?_
          refine AWp.ret ?_
          refine thenQ_r ?_
          refine end1 rfl (lk 0 rfl rfl) rfl (by first | rfl | simp []) ?_
          exact absurd c3 (lawSteps3 c0 c1)
        · try simp only [decide_eq_true_eq, decide_eq_false_iff_not, Bool.not_eq_true', Bool.not_eq_false', Bool.and_eq_true, Bool.or_eq_true, Bool.and_eq_false_iff, Bool.or_eq_false_iff, Bool.not_eq_true, Bool.not_eq_false, ite_eq_left_iff] at c3
          refine AWp.skip ?_
          refine thenQ_n ?_
          refine AWp.seq ?_
          refine W.reg [0, 1] rfl ?_
          refine S.sil 113 rfl rfl (fun _ => .callQ ent10 cF .nil (awake_ok)) ?_
          refine S.sil 8 rfl rfl (fun _ => .assign (lk 0 rfl rfl)) ?_
          refine S.nil ?_
          refine thenQ_n ?_
          refine AWp.ret ?_
          refine end1 rfl (lk 0 rfl rfl) rfl (by first | rfl | simp []) ?_
          rfl

theorem LockPasses_ok (h v : Int) (xs : List Int) : PureC Pg 7 [.int .i64 h, .int .i64 v, .sl 1 .no (xs.map (V.int .i64))] (.bool true) := by
  refine PureC.of (CallSpec.of_body 113 0 Try.func7 rfl rfl rfl (by simp) ?_) (by simp []) (by simp [])
  refine AWp.seq ?_
  refine W.reg [0] rfl ?_
  refine S.sil 6 rfl rfl (fun _ => .assign cB) ?_
  refine S.nil ?_
  refine thenQ_n ?_
  refine AWp.seq ?_
  refine W.reg [0, 1, 2, 3, 4, 5, 6, 7, 8] rfl ?_
  refine S.sil 17 rfl rfl (fun _ => .move (lk 1 rfl rfl)) ?_
  refine S.sil 18 rfl rfl (fun _ => .move (lk 3 rfl rfl)) ?_
  refine S.sil 19 rfl rfl (fun _ => .callQ ent14 cF (.c (lk 1 rfl rfl) (by first | exact V.sub.refl _ | exact V.sub.forget _ _ _ | exact V.sub.nils_no _ | exact V.sub.nils _) (.c (lk 0 rfl rfl) (by first | exact V.sub.refl _ | exact V.sub.forget _ _ _ | exact V.sub.nils_no _ | exact V.sub.nils _) .nil)) (New_ok _ _)) ?_
  refine S.sil 16 rfl rfl (fun _ => .move (lk 0 rfl rfl)) ?_
  refine S.sil 20 rfl rfl (fun _ => .extract (lk 0 rfl rfl) rfl) ?_
  refine S.sil 21 rfl rfl (fun _ => .extract (lk 1 rfl rfl) rfl) ?_
  refine S.new 7 rfl rfl (.alloc zv23) ?_
  refine S.effN rfl rfl (.store sz23 (lk 0 rfl rfl) (lk 2 rfl rfl) rfl rfl rfl rfl (by first | rfl | simp) (by first | rfl | simp)) ?_
  refine S.sil 8 rfl rfl (fun _ => .assign (lk 1 rfl rfl)) ?_
  refine S.nil ?_
  refine thenQ_n ?_
  refine AWp.seq ?_
  refine AWp.seq ?_
  refine W.reg [0, 1, 2, 3, 4, 5, 6] rfl ?_
  refine S.sil 22 rfl rfl (fun _ => .move (lk 0 rfl rfl)) ?_
  refine S.sil 23 rfl rfl (fun _ => .neq (lk 0 rfl rfl) cI) ?_
  refine S.sil 24 rfl rfl (fun _ => .move (lk 0 rfl rfl)) ?_
  refine S.gsil 25 2 24 false rfl rfl rfl (lk 0 rfl rfl) (fun hB _ => .move (lk 14 rfl rfl)) ?_
  first | refine S.gsil 26 2 24 false rfl rfl rfl (lk 1 rfl rfl) (fun hB _ => .len sli42 (ifT hB (lk 0 rfl rfl)) (by first | exact V.sub.refl _ | exact V.sub.forget _ _ _ | exact V.sub.nils_no _ | exact V.sub.nils _)) ?_ | refine S.gsil 26 2 24 false rfl rfl rfl (lk 1 rfl rfl) (fun hB _ => .lenO sli42 (ifT hB (lk 0 rfl rfl))) ?_
  refine S.gsil 27 2 24 false rfl rfl rfl (lk 2 rfl rfl) (fun hB _ => .gtr (ifT hB (lk 0 rfl rfl)) cI) ?_
  refine S.sil 28 rfl rfl (fun _ => .pickOr (lk 3 rfl rfl) cB (fun h => ifT h (lk 0 rfl rfl))) ?_
  refine S.nil ?_
  refine thenQ_n ?_
  refine AWp.cond (lk 0 rfl rfl) (fun c0 => ?_) (fun c0 => ?_)
  · try simp only [decide_eq_true_eq, decide_eq_false_iff_not, Bool.not_eq_true', Bool.not_eq_false', Bool.and_eq_true, Bool.or_eq_true, Bool.and_eq_false_iff, Bool.or_eq_false_iff, Bool.not_eq_true, Bool.not_eq_false, ite_eq_left_iff] at c0
    refine AWp.seq ?_
    refine W.reg [0, 1] rfl ?_
    refine S.sil 29 rfl rfl (fun _ => .callQ ent10 cF .nil (awake_ok)) ?_
    refine S.sil 6 rfl rfl (fun _ => .assign (lk 0 rfl rfl)) ?_
    refine S.nil ?_
    refine thenQ_n ?_
    refine AWp.ret ?_
    refine thenQ_r ?_
    refine end1 rfl (lk 0 rfl rfl) rfl (by first | rfl | simp []) ?_
    rfl
  · try simp only [decide_eq_true_eq, decide_eq_false_iff_not, Bool.not_eq_true', Bool.not_eq_false', Bool.and_eq_true, Bool.or_eq_true, Bool.and_eq_false_iff, Bool.or_eq_false_iff, Bool.not_eq_true, Bool.not_eq_false, ite_eq_left_iff] at c0
    obtain ⟨hR, hN, hnew⟩ := new_ok c0.1
    have hl : xs.length ≤ 30 := by have := c0.2; simp at this; omega
    refine AWp.skip ?_
    refine thenQ_n ?_
    refine AWp.seq ?_
    refine AWp.seq ?_
    refine W.reg [0, 1, 2] rfl ?_
    refine S.sil 30 rfl rfl (fun _ => .move (lk 18 rfl rfl)) ?_
    first | refine S.sil 31 rfl rfl (fun _ => .len sli42 (lk 0 rfl rfl) (by first | exact V.sub.refl _ | exact V.sub.forget _ _ _ | exact V.sub.nils_no _ | exact V.sub.nils _)) ?_ | refine S.sil 31 rfl rfl (fun _ => .lenO sli42 (lk 0 rfl rfl)) ?_
    refine S.sil 32 rfl rfl (fun _ => .move cI) ?_
    refine S.nil ?_
    refine thenQ_n ?_
    refine AWp.block ?_
    refine AWp.loopS (ι := {p : Nat × Int // p.1 ≤ xs.length ∧ isR p.2 = true}) (fun ⟨⟨i, k⟩, _⟩ => ⟨[(1, .int .i64 v), (7, .ptr 0 [] 0), (30, .sl 1 .no (xs.map (V.int .i64))), (31, .int .i64 ((xs.length : Nat) : Int)), (32, .int .i64 (i : Int))], [.cells (encLock ⟨(i : Int), 0, k, v⟩)]⟩) (fun ⟨⟨i, k⟩, _⟩ => xs.length - i) ⟨⟨0, h⟩, by simp, hR⟩ ?_ ?_
    · exact Wk.to 1 (by decide) (congrArg (fun l => [AObj.cells (encLock l)]) hnew) (.eq (lk 20 rfl rfl) rfl (.eq (lk 11 rfl rfl) rfl (.eq (lk 2 rfl rfl) rfl (.eq (lk 1 rfl rfl) (by simp) (.eq (lk 0 rfl rfl) rfl .nil))))) (by first | rfl | simp [envLt, V.lt]) (by first | rfl | simp [objsLt, AObj.lt, V.lt])
    · rintro ⟨⟨i, k⟩, hi1, hi2⟩
      have hi1 : i ≤ xs.length := hi1
      refine AWp.seq ?_
      refine W.reg [0] rfl ?_
      refine S.sil 33 rfl rfl (fun _ => .lss (lk 4 rfl rfl) (lk 3 rfl rfl)) ?_
      refine S.nil ?_
      refine thenQ_n ?_
      refine AWp.seq ?_
      refine AWp.cond (lk 0 rfl rfl) (fun c1 => ?_) (fun c1 => ?_)
      · try simp only [decide_eq_true_eq, decide_eq_false_iff_not, Bool.not_eq_true', Bool.not_eq_false', Bool.and_eq_true, Bool.or_eq_true, Bool.and_eq_false_iff, Bool.or_eq_false_iff, Bool.not_eq_true, Bool.not_eq_false, ite_eq_left_iff] at c1
        have hu : (xs.map (V.int .i64))[((i : Nat) : Int).toNat]? = some (.int .i64 (xs.getD i 0)) := map_get (V.int .i64) 0 (by omega)
        refine AWp.skip ?_
        refine thenQ_n ?_
        refine AWp.seq ?_
        refine AWp.block ?_
        refine AWp.seq ?_
        refine W.reg [0, 1, 2, 3, 4] rfl ?_
        refine S.sil 34 rfl rfl (fun _ => .move (lk 5 rfl rfl)) ?_
        first | refine S.sil 35 rfl rfl (fun _ => .indexAddrS sli42 (lk 4 rfl rfl) (lk 6 rfl rfl) (by omega) (by simp; omega) hu) ?_ | refine S.sil 35 rfl rfl (fun _ => .indexAddrO sli42 (lk 4 rfl rfl) (lk 6 rfl rfl) (by omega) (by simp; omega)) ?_
        first | refine S.qui 36 rfl rfl (fun _ => .load sz3 ag3 (lk 0 rfl rfl) (by first | rfl | simp) rfl rfl (by first | rfl | simp) (by first | rfl | simp)) ?_ | refine S.sil 36 rfl rfl (fun _ => .loadC sz3 ag3 (lk 0 rfl rfl) (by first | rfl | simp) (by first | rfl | simp)) ?_
        refine S.sil 9 rfl rfl (fun _ => .assign (lk 2 rfl rfl)) ?_
        refine S.sil 10 rfl rfl (fun _ => .assign (lk 1 rfl rfl)) ?_
        refine S.nil ?_
        refine thenQ_n ?_
        refine AWp.seq ?_
        refine W.reg [0, 1, 2] rfl ?_
        first | refine S.sil 37 rfl rfl (fun _ => .fieldAddr lay23 rfl rfl (lk 7 rfl rfl)) ?_ | refine S.sil 37 rfl rfl (fun _ => .fieldAddrC lay23 rfl rfl (lk 7 rfl rfl) rfl (by first | rfl | simp)) ?_
        first | refine S.qui 38 rfl rfl (fun _ => .load sz3 ag3 (lk 0 rfl rfl) (by first | rfl | simp) rfl rfl (by first | rfl | simp) (by first | rfl | simp)) ?_ | refine S.sil 38 rfl rfl (fun _ => .loadC sz3 ag3 (lk 0 rfl rfl) (by first | rfl | simp) (by first | rfl | simp)) ?_
        refine S.sil 11 rfl rfl (fun _ => .assign (lk 0 rfl rfl)) ?_
        refine S.nil ?_
        refine thenQ_n ?_
        refine AWp.seq ?_
        refine W.reg [0, 1, 2, 3, 4, 5, 6, 7, 8, 9] rfl ?_
        first | refine S.qui 40 rfl rfl (fun _ => .load sz23 ag23 (lk 10 rfl rfl) (by first | rfl | simp) rfl rfl (by first | rfl | simp) (by first | rfl | simp)) ?_ | refine S.sil 40 rfl rfl (fun _ => .loadC sz23 ag23 (lk 10 rfl rfl) (by first | rfl | simp) (by first | rfl | simp)) ?_
        refine S.sil 41 rfl rfl (fun _ => .move (lk 1 rfl rfl)) ?_
        refine S.sil 42 rfl rfl (fun _ => .move (lk 5 rfl rfl)) ?_
        refine S.sil 43 rfl rfl (fun _ => .callQ ent16 cF (.c (lk 2 rfl rfl) (by first | exact V.sub.refl _ | exact V.sub.forget _ _ _ | exact V.sub.nils_no _ | exact V.sub.nils _) (.c (lk 1 rfl rfl) (by first | exact V.sub.refl _ | exact V.sub.forget _ _ _ | exact V.sub.nils_no _ | exact V.sub.nils _) (.c (lk 0 rfl rfl) (by first | exact V.sub.refl _ | exact V.sub.forget _ _ _ | exact V.sub.nils_no _ | exact V.sub.nils _) .nil))) (Pass_ok _ _ _)) ?_
        refine S.sil 39 rfl rfl (fun _ => .move (lk 0 rfl rfl)) ?_
        refine S.sil 44 rfl rfl (fun _ => .extract (lk 0 rfl rfl) rfl) ?_
        refine S.sil 45 rfl rfl (fun _ => .extract (lk 1 rfl rfl) rfl) ?_
        refine S.new 12 rfl rfl (.alloc zv23) ?_
        refine S.effN rfl rfl (.store sz23 (lk 0 rfl rfl) (lk 2 rfl rfl) rfl rfl rfl rfl (by first | rfl | simp) (by first | rfl | simp)) ?_
        refine S.sil 13 rfl rfl (fun _ => .assign (lk 1 rfl rfl)) ?_
        refine S.nil ?_
        refine thenQ_n ?_
        refine AWp.seq ?_
        refine AWp.seq ?_
        refine W.reg [0, 1, 2, 3, 4, 5] rfl ?_
        refine S.sil 46 rfl rfl (fun _ => .move (lk 12 rfl rfl)) ?_
        refine S.sil 47 rfl rfl (fun _ => .lss (lk 0 rfl rfl) cI) ?_
        refine S.sil 48 rfl rfl (fun _ => .move (lk 0 rfl rfl)) ?_
        refine S.gsil 49 2 48 false rfl rfl rfl (lk 0 rfl rfl) (fun hB _ => .move (lk 15 rfl rfl)) ?_
        refine S.gsil 50 2 48 false rfl rfl rfl (lk 1 rfl rfl) (fun hB _ => .gtr (ifT hB (lk 0 rfl rfl)) cI) ?_
        refine S.sil 51 rfl rfl (fun _ => .pickOr (lk 2 rfl rfl) cB (fun h => ifT h (lk 0 rfl rfl))) ?_
        refine S.nil ?_
        refine thenQ_n ?_
        refine AWp.cond (lk 0 rfl rfl) (fun c2 => ?_) (fun c2 => ?_)
        · try simp only [decide_eq_true_eq, decide_eq_false_iff_not, Bool.not_eq_true', Bool.not_eq_false', Bool.and_eq_true, Bool.or_eq_true, Bool.and_eq_false_iff, Bool.or_eq_false_iff, Bool.not_eq_true, Bool.not_eq_false, ite_eq_left_iff] at c2
          refine AWp.seq ?_
          refine W.reg [0, 1, 2, 3, 4, 5, 6, 7, 8, 9, 10] rfl ?_
          refine S.sil 52 rfl rfl (fun _ => .move (lk 6 rfl rfl)) ?_
          refine S.sil 53 rfl rfl (fun _ => .eql (lk 0 rfl rfl) cI) ?_
          refine S.sil 54 rfl rfl (fun _ => .move (lk 0 rfl rfl)) ?_
          first | refine S.gqui 55 2 54 true rfl rfl rfl (lk 0 rfl rfl) (fun hB _ => .load sz23 ag23 (lk 10 rfl rfl) (by first | rfl | simp) rfl rfl (by first | rfl | simp) (by first | rfl | simp)) ?_ | refine S.gsil 55 2 54 true rfl rfl rfl (lk 0 rfl rfl) (fun hB _ => .loadC sz23 ag23 (lk 10 rfl rfl) (by first | rfl | simp) (by first | rfl | simp)) ?_
          refine S.gsil 56 2 54 true rfl rfl rfl (lk 1 rfl rfl) (fun hB _ => .buildStL lay23 zv23 .nil rfl rfl) ?_
          refine S.gsil 57 2 54 true rfl rfl rfl (lk 2 rfl rfl) (fun hB _ => .eqlV eqt23 (ifT hB (lk 1 rfl rfl)) (ifT hB (lk 0 rfl rfl)) (by first | rfl | simp) (by first | rfl | simp) rfl rfl) ?_
          refine S.sil 58 rfl rfl (fun _ => .pickAnd (lk 3 rfl rfl) (fun h => ifT h (lk 0 rfl rfl)) cB) ?_
          refine S.sil 59 rfl rfl (fun _ => .move (lk 0 rfl rfl)) ?_
          refine S.gsil 60 7 59 true rfl rfl rfl (lk 0 rfl rfl) (fun hB _ => .callQ ent10 cF .nil (awake_ok)) ?_
          refine S.sil 61 rfl rfl (fun _ => .pickAnd (lk 1 rfl rfl) (fun h => ifT h (lk 0 rfl rfl)) cB) ?_
          refine S.sil 6 rfl rfl (fun _ => .assign (lk 0 rfl rfl)) ?_
          refine S.nil ?_
          refine thenQ_n ?_
          refine AWp.ret ?_
          refine thenQ_r ?_
          refine blockQ_r ?_
          refine thenQ_r ?_
          refine thenQ_r ?_
          refine blockQ_r ?_
          refine thenQ_r ?_
          refine end1 rfl (lk 0 rfl rfl) rfl (by first | rfl | simp []) ?_
          exact congrArg V.bool (lawPasses1 _ c2)
        · try simp only [decide_eq_true_eq, decide_eq_false_iff_not, Bool.not_eq_true', Bool.not_eq_false', Bool.and_eq_true, Bool.or_eq_true, Bool.and_eq_false_iff, Bool.or_eq_false_iff, Bool.not_eq_true, Bool.not_eq_false, ite_eq_left_iff] at c2
          have hk : isR (xs.getD i 0) = true := isR_iff.2 (by omega)
          have hp := pass_some (v := v) (k := k) (i := (i : Int)) (by omega) (by omega) hk
          refine AWp.skip ?_
          refine thenQ_n ?_
          refine AWp.seq ?_
          refine W.reg [0, 1, 2, 3, 4, 5, 6, 7, 8, 9] rfl ?_
          first | refine S.qui 63 rfl rfl (fun _ => .load sz23 ag23 (lk 7 rfl rfl) (by first | rfl | simp) rfl rfl (by first | rfl | simp) (by first | rfl | simp)) ?_ | refine S.sil 63 rfl rfl (fun _ => .loadC sz23 ag23 (lk 7 rfl rfl) (by first | rfl | simp) (by first | rfl | simp)) ?_
          refine S.sil 64 rfl rfl (fun _ => .move (lk 16 rfl rfl)) ?_
          refine S.sil 65 rfl rfl (fun _ => .move (lk 26 rfl rfl)) ?_
          refine S.sil 66 rfl rfl (fun _ => .callQ ent15 cF (.c (lk 2 rfl rfl) (by first | exact V.sub.refl _ | exact V.sub.forget _ _ _ | exact V.sub.nils_no _ | exact V.sub.nils _) (.c (lk 1 rfl rfl) (by first | exact V.sub.refl _ | exact V.sub.forget _ _ _ | exact V.sub.nils_no _ | exact V.sub.nils _) (.c (lk 0 rfl rfl) (by first | exact V.sub.refl _ | exact V.sub.forget _ _ _ | exact V.sub.nils_no _ | exact V.sub.nils _) .nil))) (Write_ok _ _ _)) ?_
          refine S.sil 62 rfl rfl (fun _ => .move (lk 0 rfl rfl)) ?_
          refine S.sil 67 rfl rfl (fun _ => .extract (lk 0 rfl rfl) rfl) ?_
          refine S.sil 68 rfl rfl (fun _ => .extract (lk 1 rfl rfl) rfl) ?_
          refine S.new 14 rfl rfl (.alloc zv23) ?_
          refine S.effN rfl rfl (.store sz23 (lk 0 rfl rfl) (lk 2 rfl rfl) rfl rfl rfl rfl (by first | rfl | simp) (by first | rfl | simp)) ?_
          refine S.sil 15 rfl rfl (fun _ => .assign (lk 1 rfl rfl)) ?_
          refine S.nil ?_
          refine thenQ_n ?_
          refine AWp.seq ?_
          refine AWp.seq ?_
          refine W.regD [0, 1, 2, 3, 4, 5, 6, 7, 8, 9, 10, 11, 12, 13, 14, 15, 16, 17, 18, 19, 20, 21, 22, 23, 24, 25, 26, 27, 28, 29, 30, 31, 32, 33, 34, 35, 36, 37, 38, 39, 40] mixed ?_
          refine S.sil 69 rfl rfl (fun _ => .move (lk 15 rfl rfl)) ?_
          refine S.sil 70 rfl rfl (fun _ => .neq (lk 0 rfl rfl) cI) ?_
          refine S.sil 71 rfl rfl (fun _ => .move (lk 0 rfl rfl)) ?_
          first | refine S.gsil 72 2 71 false rfl rfl rfl (lk 0 rfl rfl) (fun hB _ => .fieldAddr lay23 rfl rfl (lk 19 rfl rfl)) ?_ | refine S.gsil 72 2 71 false rfl rfl rfl (lk 0 rfl rfl) (fun hB _ => .fieldAddrC lay23 rfl rfl (lk 19 rfl rfl) rfl (by first | rfl | simp)) ?_
          first | refine S.gqui 73 2 71 false rfl rfl rfl (lk 1 rfl rfl) (fun hB _ => .load sz3 ag3 (ifT hB (lk 0 rfl rfl)) (by first | rfl | simp) rfl rfl (by first | rfl | simp) (by first | rfl | simp)) ?_ | refine S.gsil 73 2 71 false rfl rfl rfl (lk 1 rfl rfl) (fun hB _ => .loadC sz3 ag3 (ifT hB (lk 0 rfl rfl)) (by first | rfl | simp) (by first | rfl | simp)) ?_
          refine S.gsil 74 2 71 false rfl rfl rfl (lk 2 rfl rfl) (fun hB _ => .move (lk 33 rfl rfl)) ?_
          refine S.gsil 75 2 71 false rfl rfl rfl (lk 3 rfl rfl) (fun hB _ => .add (ifT hB (lk 0 rfl rfl)) cI) ?_
          refine S.gsil 76 2 71 false rfl rfl rfl (lk 4 rfl rfl) (fun hB _ => .neq (ifT hB (lk 2 rfl rfl)) (ifT hB (lk 0 rfl rfl))) ?_
          refine S.sil 77 rfl rfl (fun _ => .pickOr (lk 5 rfl rfl) cB (fun h => ifT h (lk 0 rfl rfl))) ?_
          refine S.sil 78 rfl rfl (fun _ => .move (lk 0 rfl rfl)) ?_
          first | refine S.gsil 79 9 78 false rfl rfl rfl (lk 0 rfl rfl) (fun hB _ => .fieldAddr lay23 rfl rfl (lk 26 rfl rfl)) ?_ | refine S.gsil 79 9 78 false rfl rfl rfl (lk 0 rfl rfl) (fun hB _ => .fieldAddrC lay23 rfl rfl (lk 26 rfl rfl) rfl (by first | rfl | simp)) ?_
          first | refine S.gqui 80 9 78 false rfl rfl rfl (lk 1 rfl rfl) (fun hB _ => .load sz3 ag3 (ifT hB (lk 0 rfl rfl)) (by first | rfl | simp) rfl rfl (by first | rfl | simp) (by first | rfl | simp)) ?_ | refine S.gsil 80 9 78 false rfl rfl rfl (lk 1 rfl rfl) (fun hB _ => .loadC sz3 ag3 (ifT hB (lk 0 rfl rfl)) (by first | rfl | simp) (by first | rfl | simp)) ?_
          refine S.gsil 81 9 78 false rfl rfl rfl (lk 2 rfl rfl) (fun hB _ => .neq (ifT hB (lk 0 rfl rfl)) cI) ?_
          refine S.sil 82 rfl rfl (fun _ => .pickOr (lk 3 rfl rfl) cB (fun h => ifT h (lk 0 rfl rfl))) ?_
          refine S.sil 83 rfl rfl (fun _ => .move (lk 0 rfl rfl)) ?_
          first | refine S.gsil 84 14 83 false rfl rfl rfl (lk 0 rfl rfl) (fun hB _ => .fieldAddr lay23 rfl rfl (lk 31 rfl rfl)) ?_ | refine S.gsil 84 14 83 false rfl rfl rfl (lk 0 rfl rfl) (fun hB _ => .fieldAddrC lay23 rfl rfl (lk 31 rfl rfl) rfl (by first | rfl | simp)) ?_
          first | refine S.gqui 85 14 83 false rfl rfl rfl (lk 1 rfl rfl) (fun hB _ => .load sz3 ag3 (ifT hB (lk 0 rfl rfl)) (by first | rfl | simp) rfl rfl (by first | rfl | simp) (by first | rfl | simp)) ?_ | refine S.gsil 85 14 83 false rfl rfl rfl (lk 1 rfl rfl) (fun hB _ => .loadC sz3 ag3 (ifT hB (lk 0 rfl rfl)) (by first | rfl | simp) (by first | rfl | simp)) ?_
          refine S.gsil 86 14 83 false rfl rfl rfl (lk 2 rfl rfl) (fun hB _ => .move (lk 50 rfl rfl)) ?_
          refine S.gsil 87 14 83 false rfl rfl rfl (lk 3 rfl rfl) (fun hB _ => .neq (ifT hB (lk 1 rfl rfl)) (ifT hB (lk 0 rfl rfl))) ?_
          refine S.sil 88 rfl rfl (fun _ => .pickOr (lk 4 rfl rfl) cB (fun h => ifT h (lk 0 rfl rfl))) ?_
          refine S.sil 89 rfl rfl (fun _ => .move (lk 0 rfl rfl)) ?_
          first | refine S.gsil 90 20 89 false rfl rfl rfl (lk 0 rfl rfl) (fun hB _ => .fieldAddr lay23 rfl rfl (lk 37 rfl rfl)) ?_ | refine S.gsil 90 20 89 false rfl rfl rfl (lk 0 rfl rfl) (fun hB _ => .fieldAddrC lay23 rfl rfl (lk 37 rfl rfl) rfl (by first | rfl | simp)) ?_
          first | refine S.gqui 91 20 89 false rfl rfl rfl (lk 1 rfl rfl) (fun hB _ => .load sz3 ag3 (ifT hB (lk 0 rfl rfl)) (by first | rfl | simp) rfl rfl (by first | rfl | simp) (by first | rfl | simp)) ?_ | refine S.gsil 91 20 89 false rfl rfl rfl (lk 1 rfl rfl) (fun hB _ => .loadC sz3 ag3 (ifT hB (lk 0 rfl rfl)) (by first | rfl | simp) (by first | rfl | simp)) ?_
          refine S.gsil 92 20 89 false rfl rfl rfl (lk 2 rfl rfl) (fun hB _ => .move (lk 50 rfl rfl)) ?_
          refine S.gsil 93 20 89 false rfl rfl rfl (lk 3 rfl rfl) (fun hB _ => .neq (ifT hB (lk 1 rfl rfl)) (ifT hB (lk 0 rfl rfl))) ?_
          refine S.sil 94 rfl rfl (fun _ => .pickOr (lk 4 rfl rfl) cB (fun h => ifT h (lk 0 rfl rfl))) ?_
          refine S.sil 95 rfl rfl (fun _ => .move (lk 0 rfl rfl)) ?_
          refine S.gsil 96 26 95 false rfl rfl rfl (lk 0 rfl rfl) (fun hB _ => .move (lk 27 rfl rfl)) ?_
          refine S.gsil 97 26 95 false rfl rfl rfl (lk 1 rfl rfl) (fun hB _ => .eql (ifT hB (lk 0 rfl rfl)) cI) ?_
          refine S.gsil 98 26 95 false rfl rfl rfl (lk 2 rfl rfl) (fun hB _ => .move (lk 53 rfl rfl)) ?_
          refine S.gsil 99 26 95 false rfl rfl rfl (lk 3 rfl rfl) (fun hB _ => .move (lk 57 rfl rfl)) ?_
          refine S.gsil 100 26 95 false rfl rfl rfl (lk 4 rfl rfl) (fun hB _ => .eql (ifT hB (lk 1 rfl rfl)) (ifT hB (lk 0 rfl rfl))) ?_
          refine S.gsil 101 26 95 false rfl rfl rfl (lk 5 rfl rfl) (fun hB _ => .neqB und4 (ifT hB (lk 3 rfl rfl)) (ifT hB (lk 0 rfl rfl))) ?_
          refine S.sil 102 rfl rfl (fun _ => .pickOr (lk 6 rfl rfl) cB (fun h => ifT h (lk 0 rfl rfl))) ?_
          refine S.sil 103 rfl rfl (fun _ => .move (lk 0 rfl rfl)) ?_
          first | refine S.gqui 104 34 103 false rfl rfl rfl (lk 0 rfl rfl) (fun hB _ => .load sz23 ag23 (lk 69 rfl rfl) (by first | rfl | simp) rfl rfl (by first | rfl | simp) (by first | rfl | simp)) ?_ | refine S.gsil 104 34 103 false rfl rfl rfl (lk 0 rfl rfl) (fun hB _ => .loadC sz23 ag23 (lk 69 rfl rfl) (by first | rfl | simp) (by first | rfl | simp)) ?_
          first | refine S.gqui 105 34 103 false rfl rfl rfl (lk 1 rfl rfl) (fun hB _ => .load sz23 ag23 (lk 52 rfl rfl) (by first | rfl | simp) rfl rfl (by first | rfl | simp) (by first | rfl | simp)) ?_ | refine S.gsil 105 34 103 false rfl rfl rfl (lk 1 rfl rfl) (fun hB _ => .loadC sz23 ag23 (lk 52 rfl rfl) (by first | rfl | simp) (by first | rfl | simp)) ?_
          refine S.gsil 106 34 103 false rfl rfl rfl (lk 2 rfl rfl) (fun hB _ => .callQ ent11 cF (.c (ifT hB (lk 1 rfl rfl)) (by first | exact V.sub.refl _ | exact V.sub.forget _ _ _ | exact V.sub.nils_no _ | exact V.sub.nils _) (.c (ifT hB (lk 0 rfl rfl)) (by first | exact V.sub.refl _ | exact V.sub.forget _ _ _ | exact V.sub.nils_no _ | exact V.sub.nils _) .nil)) (Join_ok _ _)) ?_
          first | refine S.gqui 107 34 103 false rfl rfl rfl (lk 3 rfl rfl) (fun hB _ => .load sz23 ag23 (lk 54 rfl rfl) (by first | rfl | simp) rfl rfl (by first | rfl | simp) (by first | rfl | simp)) ?_ | refine S.gsil 107 34 103 false rfl rfl rfl (lk 3 rfl rfl) (fun hB _ => .loadC sz23 ag23 (lk 54 rfl rfl) (by first | rfl | simp) (by first | rfl | simp)) ?_
          refine S.gsil 108 34 103 false rfl rfl rfl (lk 4 rfl rfl) (fun hB _ => .neqV eqt23 (ifT hB (lk 1 rfl rfl)) (ifT hB (lk 0 rfl rfl)) (by first | rfl | simp) (by first | rfl | simp) rfl rfl) ?_
          refine S.sil 109 rfl rfl (fun _ => .pickOr (lk 5 rfl rfl) cB (fun h => ifT h (lk 0 rfl rfl))) ?_
          refine S.nilD (by kernel_rfl) ?_
          refine thenQ_n ?_
          refine AWp.cond (lk 0 rfl rfl) (fun c3 => ?_) (fun c3 => ?_)
          · try simp only [decide_eq_true_eq, decide_eq_false_iff_not, Bool.not_eq_true', Bool.not_eq_false', Bool.and_eq_true, Bool.or_eq_true, Bool.and_eq_false_iff, Bool.or_eq_false_iff, Bool.not_eq_true, Bool.not_eq_false, ite_eq_left_iff] at c3
            refine AWp.seq ?_
            refine W.reg [0] rfl ?_
            refine S.sil 6 rfl rfl (fun _ => .assign cB) ?_
            refine S.nil ?_
            refine thenQ_n ?_
            refine AWp.ret ?_
            refine thenQ_r ?_
            refine blockQ_r ?_
            refine thenQ_r ?_
            refine thenQ_r ?_
            refine blockQ_r ?_
            refine thenQ_r ?_
            refine end1 rfl (lk 0 rfl rfl) rfl (by first | rfl | simp []) ?_
            exact absurd c3 (lawPasses2 hN (by omega) (by omega) hp)
          · try simp only [decide_eq_true_eq, decide_eq_false_iff_not, Bool.not_eq_true', Bool.not_eq_false', Bool.and_eq_true, Bool.or_eq_true, Bool.and_eq_false_iff, Bool.or_eq_false_iff, Bool.not_eq_true, Bool.not_eq_false, ite_eq_left_iff] at c3
            refine AWp.skip ?_
            refine thenQ_n ?_
            refine W.reg [0, 1] rfl ?_
            first | refine S.qui 110 rfl rfl (fun _ => .load sz23 ag23 (lk 57 rfl rfl) (by first | rfl | simp) rfl rfl (by first | rfl | simp) (by first | rfl | simp)) ?_ | refine S.sil 110 rfl rfl (fun _ => .loadC sz23 ag23 (lk 57 rfl rfl) (by first | rfl | simp) (by first | rfl | simp)) ?_
            refine S.effN rfl rfl (.store sz23 (lk 76 rfl rfl) (lk 0 rfl rfl) rfl rfl rfl rfl (by first | rfl | simp) (by first | rfl | simp)) ?_
            refine S.nil ?_
            refine blockQ_n ?_
            refine thenQ_n ?_
            refine W.reg [0, 1] rfl ?_
            refine S.sil 111 rfl rfl (fun _ => .add (lk 79 rfl rfl) cI) ?_
            refine S.sil 32 rfl rfl (fun _ => .move (lk 0 rfl rfl)) ?_
            refine S.nil ?_
            refine thenQ_n ?_
            refine ⟨⟨⟨i + 1, xs.getD i 0⟩, by simp; omega, hk⟩, by simp; omega, ?_⟩
            exact Wk.to 1 (by decide) (congrArg (fun l => [AObj.cells (encLock l)]) (congrArg Prod.fst hp)) (.eq (lk 77 rfl rfl) rfl (.eq (lk 78 rfl rfl) rfl (.eq (lk 79 rfl rfl) rfl (.eq (lk 80 rfl rfl) rfl (.eq (lk 0 rfl rfl) (by rw [wrap_id (by omega) (by omega)]; rfl) .nil))))) (by first | rfl | simp [envLt, V.lt]) (by first | rfl | simp [objsLt, AObj.lt, V.lt])
      · try simp only [decide_eq_true_eq, decide_eq_false_iff_not, Bool.not_eq_true', Bool.not_eq_false', Bool.and_eq_true, Bool.or_eq_true, Bool.and_eq_false_iff, Bool.or_eq_false_iff, Bool.not_eq_true, Bool.not_eq_false, ite_eq_left_iff] at c1
        refine AWp.exit ?_
        refine thenQ_x ?_
        refine thenQ_x ?_
        refine blockQ_x ?_
        refine thenQ_n ?_
        refine AWp.seq ?_
        refine W.reg [0, 1] rfl ?_
        refine S.sil 112 rfl rfl (fun _ => .callQ ent10 cF .nil (awake_ok)) ?_
        refine S.sil 6 rfl rfl (fun _ => .assign (lk 0 rfl rfl)) ?_
        refine S.nil ?_
        refine thenQ_n ?_
        refine AWp.ret ?_
        refine end1 rfl (lk 0 rfl rfl) rfl (by first | rfl | simp []) ?_
        rfl

end Go.Av
