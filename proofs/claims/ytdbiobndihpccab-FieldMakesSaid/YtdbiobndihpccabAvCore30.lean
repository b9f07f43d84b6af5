/- Regions that end in a panic. -/
import Derived.Test.YtdbiobndihpccabAvCore29
namespace Go.Av
set_option linter.unusedVariables false
set_option linter.unusedSimpArgs false

/-- The operation panics, with a value and in a world of which K holds. -/
def PanRes (P : Program) (K : Value → World → Prop) : Result Next → Prop
  | .halt (.panic v) w' => K v w'
  | .ok (.enter f args) w' => Calls P f args w' fun e w'' => match e with
    | .panicked ch => ∃ x, ch = [{ v := x, recovered := false }] ∧ K x w''
    | _ => False
  | _ => False

def PanS (P : Program) (o : Oper) (ev : Operand → V) (H : List AObj) (v : V) (H' : List AObj) : Prop :=
  ∀ g (rc : Operand → Value) w, (∀ x ∈ o.op.operands, RV g (ev x) (rc x)) → HR g H w →
    PanRes P (fun x w' => ∃ g', RV g' v x ∧ HR g' H' w' ∧ Ev g H w g' H' w') ((execOp rc o).run P w)

theorem upon_of_pan {P : Program} {o : Oper} {a : Act} {next : Act → World → Prop} {Q : Exit → Act → World → Prop} {K : Value → World → Prop} {r : Result Next}
    (h : PanRes P K r) (hk : ∀ x w', K x w' → Q (.panic [{ v := x, recovered := false }]) a w') : o.upon P a next Q r := by
  cases r with
  | ok nx w' =>
    cases nx <;> simp only [PanRes] at h <;> try exact h.elim
    simp only [Oper.upon]
    refine Calls.mono h fun e w'' he => ?_
    cases e with
    | returned x => exact he.elim
    | panicked c => obtain ⟨x, rfl, hK⟩ := he; exact hk _ _ hK
    | outgrown => exact he.elim
  | halt x w' =>
    cases x <;> simp only [PanRes] at h <;> try exact h.elim
    exact hk _ _ h

/-- The frame, with something deferred. -/
structure RActD (g : Gh) (n : Nat) (D : List Deferred) (env : List (Nat × V)) (a : Act) : Prop where
  env : REnv g env a
  size : a.tmps.size = n
  defers : a.defers = D
theorem RActD.put {g : Gh} {n : Nat} {D : List Deferred} {env : List (Nat × V)} {a : Act} (h : RActD g n D env a) {dst : Option Tmp} (hd : okDst n dst = true) {v : V} {x : Value} (hv : RV g v x) :
    RActD g n D (putD dst v env) (a.put dst x) := by
  refine ⟨fun t => ?_, by rw [size_put]; exact h.size, by cases dst <;> exact h.defers⟩
  cases dst with
  | none => exact h.env t
  | some d =>
    simp only [putD, look_cons]
    rw [getD_put a d t x (by rw [h.size]; simpa [okDst] using hd)]
    split
    · exact hv
    · exact h.env t
theorem RActD.mono {g g' : Gh} {n : Nat} {D : List Deferred} {env : List (Nat × V)} {a : Act} (h : RActD g n D env a) (le : g.le g') : RActD g' n D env a := ⟨h.env.mono le, h.size, h.defers⟩

theorem Steps.runD {P : Program} {ops : Array Oper} {n : Nat} {D : List Deferred} {F : List AObj → Prop} {Q : Exit → Act → World → Prop} {rest : List Nat} : ∀ {l : List Nat} {s s' : St} {ks : List Kd}, Steps P ops n F l s ks s' →
    ∀ {g : Gh} {a : Act} {w : World}, RActD g n D s.env a → HR g s.H w → (∀ g' a' w', RActD g' n D s'.env a' → HR g' s'.H w' → Ev g s.H w g' s'.H w' → wpOps P ops Q rest a' w') → wpOps P ops Q (l ++ rest) a w := by
  intro l s s' ks h
  induction h with
  | nil s _ => intro g a w ha hr hq; exact hq g a w ha hr (.refl _ _ _)
  | @cons i l s s₁ s' k v ks o ho hF h t ih =>
    intro g a w ha hr hq
    rw [List.cons_append, wpOps_cons]
    obtain ⟨e1, e2, e3, _⟩ := h.env
    refine h.run (g := g) (H := s.H) (H' := s₁.H) (fun x _ => ha.env.ev x) (fun j want d _ _ => ha.env d) hF ?_ hr ho ?_
    · cases k with
      | sil => exact .inl ⟨rfl, e3 (by simp) (by simp)⟩
      | qui => exact .inr (.inr ⟨by simp, rfl, rfl⟩)
      | new => exact .inr (.inr ⟨by simp, rfl, rfl⟩)
      | eff => exact .inr (.inr ⟨by simp, rfl, rfl⟩)
    · intro g' x w' hv hr' hev
      have ha' : RActD g' n D s₁.env (a.put o.dst x) := by rw [e1]; exact (ha.mono hev.le).put e2 hv
      exact ih ha' hr' fun g'' a'' w'' h1 h2 h3 => hq g'' a'' w'' h1 h2 (hev.trans h3)

theorem pan_op {P : Program} {ops : Array Oper} {n : Nat} {D : List Deferred} {Q : Exit → Act → World → Prop} {i : Nat} {rest : List Nat} {o : Oper} (ho : ops[i]? = some o) (hg : o.guard = none) {s : St} {v : V} {H' : List AObj}
    (h : PanS P o (ev s.env) s.H v H') {g : Gh} {a : Act} {w : World} (ha : RActD g n D s.env a) (hr : HR g s.H w)
    (hq : ∀ g' x w', RV g' v x → RActD g' n D s.env a → HR g' H' w' → Ev g s.H w g' H' w' → Q (.panic [{ v := x, recovered := false }]) a w') : wpOps P ops Q (i :: rest) a w := by
  rw [wpOps_cons]
  unfold wpOp
  rw [ho]
  simp only [Region.wanted, hg]
  refine .inl ?_
  exact upon_of_pan (h g a.eval w (fun x _ => ha.env.ev x) hr) fun x w' ⟨g', h1, h2, h3⟩ => hq g' x w' h1 (ha.mono h3.le) h2 h3

/-- A region that panics at one of its operations. -/
theorem AWp.regionP {P : Program} {n m : Nat} {Q : AEx → St → Prop} {s : St} {id : Nat} {ops : Array Oper} (l1 : List Nat) (i : Nat) (l2 : List Nat) (hl : List.range ops.size = l1 ++ i :: l2) {o : Oper} (ho : ops[i]? = some o) (hg : o.guard = none)
    (h : Run (fun _ => True) false P ops n [] l1 [] (fun _ s' => ∃ v H', PanS P o (ev s'.env) s'.H v H' ∧ Q (.panic v) ⟨s'.env, H'⟩) s) : AWp P n m (.region id ops false) Q s := by
  obtain ⟨s', ks, h1, _, v, H', h2, h3⟩ := h trivial
  intro B g a w b1 b2 r1 r2 r3
  refine wp_region ?_
  rw [hl]
  refine h1.runD (D := []) ⟨r1.env, r1.size, r1.defers⟩ r2 fun g' a' w' q1 q2 q3 => ?_
  refine pan_op ho hg h2 q1 q2 fun g'' x w'' p1 p2 p3 p4 => ?_
  exact ⟨g'', ⟨s'.env, H'⟩, .panic v, h3, ⟨x, rfl, p1⟩, ⟨p2.env, p2.size, p2.defers⟩, p3, (r3.trans q3).trans p4⟩

/-- A function that panics, and leaves the objects alone. -/
def PanC (P : Program) (f : FuncId) (args : List V) (v : V) : Prop := ∀ H, CallSpec P f args H fun o H' => o = .pan v ∧ H' = H
theorem PanC.ofF {P : Program} {f : FuncId} {args : List V} {r : V} (h : CallSpec P f args [] fun o H' => o = .pan r ∧ H' = []) (ha : V.ltL 0 args = true) (hr : r.lt 0 = true) : PanC P f args r :=
  fun H => ((h.mono (R' := fun o _ => o = .pan r) fun _ _ x => x.1).frame ha (fun o _ e => by subst e; exact hr) H).mono fun _ _ ⟨⟨_, h1⟩, h2⟩ => ⟨h1, h2⟩

section
variable {P : Program} {E : Operand → V} {H : List AObj} {dst : Option Tmp} {ty : TypeId} {pos : String} {aft : Array Edge} {gd : Option (Nat × Bool)}
theorem PanS.panic {x : Operand} {t : TypeId} {v : V} (hx : E x = .ifc t v) : PanS P ⟨dst, .panic x, ty, pos, aft, gd⟩ E H (.ifc t v) H := by
  intro g rc w h hr
  have hv := hx ▸ h x (by simp [Op.operands])
  have hv2 : ∃ y : Value, rc x = .iface t y := by
    obtain ⟨h1, h2⟩ := hv
    simp only [RC] at h2
    obtain ⟨y, h3, _⟩ := h2
    have ha : valAgg (rc x) = false := h1.symm
    refine ⟨y, ?_⟩
    cases hc : rc x <;> simp_all [Value.cells, valAgg]
  obtain ⟨y, hy⟩ := hv2
  have hrun : (execOp rc ⟨dst, .panic x, ty, pos, aft, gd⟩).run P w = .halt (.panic (.iface t y)) w := by
    simp [execOp, hy]
    rfl
  rw [hrun]
  exact ⟨g, hy ▸ hv, hr, .refl _ _ _⟩
theorem PanS.call {x : Operand} {args : Array Operand} {ats : Array TypeId} {f : FuncId} {first cap args' : List V} {v : V} (hE : enters P f = true) (hx : E x = .fn f first cap)
    (ha : SubL (first ++ args.toList.map E ++ cap) args') (hs : PanC P f args' v) : PanS P ⟨dst, .call ⟨.value x, args, ats⟩, ty, pos, aft, gd⟩ E H v H := by
  intro g rc w h hr
  obtain ⟨a', b', e, h1, h2⟩ := (hx ▸ h x (by simp [Op.operands, Call.operands])).fn_eq
  have hargs : RVs g (args.toList.map E) (args.toList.map rc) := RVs.map fun y hy => h y (by simp [Op.operands, Call.operands]; exact .inr (by simpa using hy))
  have hall := (h1.rvs.append hargs).append h2.rvs
  have hrun : (execOp rc ⟨dst, .call ⟨.value x, args, ats⟩, ty, pos, aft, gd⟩).run P w = .ok (.enter f (a' ++ args.map rc ++ b')) w := by
    unfold enters at hE
    split at hE
    · rename_i fn hfn
      simp only [Bool.and_eq_true, bne_iff_ne, ne_eq] at hE
      have hb : ¬ fn.body = none := by intro hq; rw [hq] at hE; simp at hE
      simp [execOp, resolve, e, Deferred.ofValue, invoke, callFunc, hfn, hE.1, hb]
    · cases hE
  rw [hrun]
  refine Calls.mono (R := fun e w' => ∃ g' H'' o, (o = .pan v ∧ H'' = H) ∧ OutRel g' e o ∧ HR g' H'' w' ∧ Ev g H w g' H'' w') ?_ ?_
  · have := hs H g w (a'.toList ++ args.toList.map rc ++ b'.toList) (hall.sub ha) hr
    have e2 : (a'.toList ++ args.toList.map rc ++ b'.toList).toArray = a' ++ args.map rc ++ b' := by apply Array.ext'; simp
    rwa [e2] at this
  · rintro e w' ⟨g', H'', o, ⟨rfl, rfl⟩, q2, q3, q4⟩
    cases e <;> simp only [OutRel] at q2
    obtain ⟨y, rfl, q2⟩ := q2
    exact ⟨y, rfl, g', q2, q3, q4⟩
end
end Go.Av
