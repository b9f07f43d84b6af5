/- Panics that are caught. -/
import Derived.Test.YtdbiobndihpccabAvCore30
import Derived.Tactics
import Derived.Tactics2
import Derived.Defers
import Derived.Recover
namespace Go.Av
set_option linter.unusedVariables false
set_option linter.unusedSimpArgs false
theorem RAct.start {g : Gh} {n : Nat} {args : List V} {xs : List Value} (hx : RVs g args xs) (hn : args.length ≤ n) : RAct g n (argEnv 0 args) { tmps := xs.toArray ++ Array.replicate (n - xs.toArray.size) Go.undef, defers := [] } := by
  have hxl := hx.len
  refine ⟨fun t => ?_, by simp; omega, rfl⟩
  have := argEnv_look args xs 0 g hx t
  simp only [Nat.not_lt_zero, if_false, Nat.sub_zero] at this
  have e : (xs.toArray ++ Array.replicate (n - xs.toArray.size) Go.undef).getD t Go.undef = xs.getD t Go.undef := by
    rw [Array.getD_eq_getD_getElem?, List.getD_eq_getElem?_getD]
    by_cases hl : t < xs.length
    · rw [Array.getElem?_append_left (by simpa using hl)]; simp
    · rw [Array.getElem?_append_right (by simpa using Nat.le_of_not_lt hl), List.getElem?_eq_none (by omega), Array.getElem?_replicate]
      split <;> rfl
  show RV g _ ((xs.toArray ++ Array.replicate (n - xs.toArray.size) Go.undef).getD t Go.undef)
  rw [e]; exact this

theorem wpS_recover {P : Program} {ops : Array Oper} {d d2 ty ty2 : Nat} {p1 p2 : String} {af1 af2 : Array Edge} {Q : Exit → Act → List Frame → World → Prop} {a : Act} {cs : List Frame} {w : World}
    (h0 : ops[0]? = some ⟨some d, .call ⟨.builtin .recover, #[], #[]⟩, ty, p1, af1, none⟩) (h1 : ops[1]? = some ⟨some d2, .assign (.tmp d), ty2, p2, af2, none⟩) (hs : ops.size = 2) (hd : d < a.tmps.size) {v : Value} {cs' : List Frame}
    (hr : (recoverD cs = some (v, cs')) ∨ (recoverD cs = none ∧ v = .nilIface ∧ cs' = cs)) (hq : Q .normal ((a.put (some d) v).put (some d2) v) cs' w) : wpOpsS P ops Q [0, 1] a cs w := by
  have hv : (a.put (some d) v).eval (.tmp d) = v := by simp [Act.eval, Act.put, hd]
  simp only [wpOpsS, h0, h1, Region.wanted, if_true]
  have e0 : ((execOp a.eval ⟨some d, .call ⟨.builtin .recover, #[], #[]⟩, ty, p1, af1, none⟩).run P w) = .ok .recover w := by simp [execOp, go_sem]
  rw [e0]
  have e1 : (execOp (a.put (some d) v).eval ⟨some d2, .assign (.tmp d), ty2, p2, af2, none⟩).run P w = .ok (.value v) w := by simp [execOp, hv]
  rcases hr with hr | ⟨hr, rfl, rfl⟩
  · simp only [hr, e1, Oper.upon]
    exact hq
  · simp only [hr, e1, Oper.upon]
    exact hq

theorem OpS.assertSame {P : Program} {E : Operand → V} {H : List AObj} {dst : Option Tmp} {ty : TypeId} {pos : String} {aft : Array Edge} {gd : Option (Nat × Bool)} {x : Operand} {xT t : TypeId} {v : V} {k : IntKind} (hu : P.underlying t = some (.int k)) (hx : E x = .ifc t v) :
    OpS P ⟨dst, .typeAssert x xT t true, ty, pos, aft, gd⟩ E H (.tup [v, .bool true]) H :=
  .quiet fun g rc w h _ => by
    have hv := hx ▸ h x (by simp [Op.operands])
    obtain ⟨h1, h2⟩ := hv
    simp only [RC] at h2
    obtain ⟨y, h3, h4, h5⟩ := h2
    have hy : rc x = .iface t y := by
      have ha : valAgg (rc x) = false := h1.symm
      cases hc : rc x <;> simp_all [Value.cells, valAgg]
    refine ⟨.tuple #[y, .bool true], ?_, ⟨#[y, .bool true], rfl, ?_⟩⟩
    · simp [execOp, hy, Instr.typeAssert, run_underlying hu, go_sem]
    · simp only [RVl]
      exact ⟨y, [.bool true], rfl, h4, h5, .bool true, [], rfl, rfl, by simp [RC, Value.cells], rfl⟩

section
variable {P : Program} {E : Operand → V} {H : List AObj} {dst : Option Tmp} {ty : TypeId} {pos : String} {aft : Array Edge} {gd : Option (Nat × Bool)}
theorem ifc_eq {g : Gh} {t : TypeId} {v : V} {x : Value} (h : RV g (.ifc t v) x) : ∃ y, x = .iface t y := by
  obtain ⟨h1, h2⟩ := h
  simp only [RC] at h2
  obtain ⟨y, h3, _⟩ := h2
  have ha : valAgg x = false := h1.symm
  refine ⟨y, ?_⟩
  cases hc : x <;> simp_all [Value.cells, valAgg]
theorem nili_eq {g : Gh} {x : Value} (h : RV g .nili x) : x = .nilIface := by
  obtain ⟨h1, h2⟩ := h
  simp only [RC] at h2
  have ha : valAgg x = false := h1.symm
  cases hc : x <;> simp_all [Value.cells, valAgg]
theorem OpS.neqIN {t : TypeId} {x y : Operand} {u : TypeId} {v : V} (hu : (match P.underlying t with | some (.interface _) => true | _ => false) = true) (hx : E x = .ifc u v) (hy : E y = .nili) : OpS P ⟨dst, .binOp .neq t x y t, ty, pos, aft, gd⟩ E H (.bool true) H :=
  .quiet fun g rc w h _ => by
    obtain ⟨z, hz⟩ := ifc_eq (hx ▸ h x (by simp [Op.operands]))
    have hz2 := nili_eq (hy ▸ h y (by simp [Op.operands]))
    refine ⟨.bool true, ?_, ⟨rfl, by simp [RC, Value.cells]⟩⟩
    cases hd : P.underlying t with
    | none => rw [hd] at hu; cases hu
    | some d =>
      cases d <;> rw [hd] at hu <;> try cases hu
      have h2 : ∀ d, (Op.equalIn (d + 1) t (.iface u z) .nilIface).run P w = .ok false w := fun d => by simp [Op.equalIn, run_underlying hd]
      have h3 : (Op.equalIn Op.maxDepth t (.iface u z) .nilIface).run P w = .ok false w := h2 9999
      simp [execOp, hz, hz2, binOp, Op.equal, h3, eqGuard, go_sem]
theorem OpS.neqNN {t : TypeId} {x : Operand} (hu : (match P.underlying t with | some (.interface _) => true | _ => false) = true) (hx : E x = .nili) (hy : E (.const .nilIface) = .nili) : OpS P ⟨dst, .binOp .neq t x (.const .nilIface) t, ty, pos, aft, gd⟩ E H (.bool false) H :=
  .quiet fun g rc w h _ => by
    have hz := nili_eq (hx ▸ h x (by simp [Op.operands]))
    have hz2 := nili_eq (hy ▸ h (.const .nilIface) (by simp [Op.operands]))
    refine ⟨.bool false, ?_, ⟨rfl, by simp [RC, Value.cells]⟩⟩
    cases hd : P.underlying t with
    | none => rw [hd] at hu; cases hu
    | some d =>
      cases d <;> rw [hd] at hu <;> try cases hu
      have h2 : ∀ d, (Op.equalIn (d + 1) t .nilIface .nilIface).run P w = .ok true w := fun d => by simp [Op.equalIn, run_underlying hd]
      have h3 : (Op.equalIn Op.maxDepth t .nilIface .nilIface).run P w = .ok true w := h2 9999
      simp [execOp, hz, hz2, binOp, Op.equal, h3, eqGuard, go_sem]
theorem OpS.eqlFN {t : TypeId} {x y : Operand} {f : FuncId} {a b : List V} (hu : (match P.underlying t with | some (.func ..) => true | _ => false) = true) (hx : E x = .fn f a b) (hy : E y = .nilfn) : OpS P ⟨dst, .binOp .eql t x y t, ty, pos, aft, gd⟩ E H (.bool false) H :=
  .quiet fun g rc w h _ => by
    obtain ⟨a', b', e, _, _⟩ := (hx ▸ h x (by simp [Op.operands])).fn_eq
    have hz2 : rc y = .nilFunc := by
      obtain ⟨h1, h2⟩ := hy ▸ h y (by simp [Op.operands])
      simp only [RC] at h2
      have ha : valAgg (rc y) = false := h1.symm
      cases hc : rc y <;> simp_all [Value.cells, valAgg]
    refine ⟨.bool false, ?_, ⟨rfl, by simp [RC, Value.cells]⟩⟩
    cases hd : P.underlying t with
    | none => rw [hd] at hu; cases hu
    | some d =>
      cases d <;> rw [hd] at hu <;> try cases hu
      have h2 : ∀ d, (Op.equalIn (d + 1) t (.func (.func f) a' b') .nilFunc).run P w = .ok false w := fun d => by simp [Op.equalIn, run_underlying hd]
      have h3 : (Op.equalIn Op.maxDepth t (.func (.func f) a' b') .nilFunc).run P w = .ok false w := h2 9999
      simp [execOp, e, hz2, binOp, Op.equal, h3, eqGuard, go_sem]
end
theorem AWp.toD {P : Program} {n m : Nat} {c y : Code} {s s' : St} (h : AWp P n m c (fun ex z => ex = .normal ∧ z = s') s) {B : Base} {g : Gh} {a : Act} {w : World} (b1 : B.H.length = m) (b2 : B.g.ρ.length = m) (r1 : RAct g n s.env a) (r2 : HR g s.H w) (r3 : Ev B.g B.H B.w g s.H w)
    {K : Exit → Act → World → Prop} (k : ∀ g' a' w', RAct g' n s'.env a' → HR g' s'.H w' → Ev B.g B.H B.w g' s'.H w' → y.wp P K a' w') : (Code.seq c y).wp P K a w := by
  refine wp_seq (wp_mono (h B g a w b1 b2 r1 r2 r3) ?_)
  rintro e a' w' ⟨g', z, ae, ⟨rfl, rfl⟩, hx, q1, q2, q3⟩
  cases e <;> simp only [ExRel] at hx <;> try exact hx.elim
  exact k g' a' w' q1 q2 q3


theorem defer_op {P : Program} {ops : Array Oper} {n : Nat} {Q : Exit → Act → World → Prop} {i : Nat} {rest : List Nat} {ty : TypeId} {pos : String} {aft : Array Edge} {x : Operand} (ho : ops[i]? = some ⟨none, .defer ⟨.value x, #[], #[]⟩, ty, pos, aft, none⟩) {env : List (Nat × V)} {f : FuncId} {cap : List V} (hx : ev env x = .fn f [] cap)
    {g : Gh} {a : Act} {w : World} (ha : RActD g n [] env a)
    (hq : ∀ (b' : Array Value), RVl g cap b'.toList → RActD g n [{ target := .fn (.func f) b', args := #[] }] env { a with defers := [{ target := .fn (.func f) b', args := #[] }] } → wpOps P ops Q rest { a with defers := [{ target := .fn (.func f) b', args := #[] }] } w) : wpOps P ops Q (i :: rest) a w := by
  rw [wpOps_cons]
  unfold wpOp
  rw [ho]
  simp only [Region.wanted]
  refine .inl ?_
  obtain ⟨a', b', e, h1, h2⟩ := (hx ▸ ha.env.ev x).fn_eq
  have ha' : a' = #[] := by
    simp only [RVl] at h1
    exact Array.toList_eq_nil_iff.1 h1
  subst ha'
  have hrun : (execOp a.eval ⟨none, .defer ⟨.value x, #[], #[]⟩, ty, pos, aft, none⟩).run P w = .ok (.defer { target := .fn (.func f) b', args := #[] }) w := by
    simp [execOp, resolve, e, Deferred.ofValue]
  show Oper.upon _ _ _ _ _ _
  rw [hrun]
  simp only [Oper.upon, ha.defers, Act.put]
  exact hq b' h2 ⟨ha.env, ha.size, rfl⟩

theorem invoke_fn {P : Program} {f : FuncId} (hE : enters P f = true) (b : Array Value) (w : World) : (invoke (.fn (.func f) b) #[]).run P w = .ok (.enter f b) w := by
  unfold enters at hE
  split at hE
  · rename_i fn hfn
    simp only [Bool.and_eq_true, bne_iff_ne, ne_eq] at hE
    have hb : ¬ fn.body = none := by intro hq; rw [hq] at hE; simp at hE
    simp [invoke, callFunc, hfn, hE.1, hb]
  · cases hE
theorem ResOK.drop {P : Program} {fn : Func} {n : Nat} {s : St} {v : V} (h : ResOK P fn n s v) {g : Gh} {a : Act} {w : World} {D : List Deferred} (ha : RActD g n D s.env a) (hr : HR g s.H w) : ∃ x, (results fn a.tmps).run P w = .ok x w ∧ RV g v x :=
  h g { a with defers := [] } w ⟨ha.env, ha.size, rfl⟩ hr


theorem runD_of {P : Program} {ops : Array Oper} {n : Nat} {D : List Deferred} {Q : Exit → Act → World → Prop} {l rest : List Nat} {s s' : St} (h : Run (fun _ => True) false P ops n [] l [] (fun _ z => z = s') s) {g : Gh} {a : Act} {w : World} (ha : RActD g n D s.env a) (hr : HR g s.H w)
    (hq : ∀ g' a' w', RActD g' n D s'.env a' → HR g' s'.H w' → Ev g s.H w g' s'.H w' → wpOps P ops Q rest a' w') : wpOps P ops Q (l ++ rest) a w := by
  obtain ⟨s3, ks, st, _, hs3⟩ := h trivial
  subst hs3
  exact st.runD ha hr hq
def tail3 : Code → Code
  | .seq _ (.seq _ (.seq _ y)) => y
  | c => c
def tryM (a b : Option Int) : Option (Int × Int) := match a with
  | some r => some (r, 0)
  | none => match b with
    | some e => some (0, e)
    | none => none
end Go.Av
