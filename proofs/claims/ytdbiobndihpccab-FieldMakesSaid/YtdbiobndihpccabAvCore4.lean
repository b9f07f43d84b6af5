/- Steps of a region over abstract values; any order that a region may draw comes to the same. -/
import Derived.Test.YtdbiobndihpccabAvCore3
namespace Go.Av
set_option linter.unusedVariables false
set_option linter.unusedSimpArgs false

structure St where
  env : List (Nat × V)
  H : List AObj

def look : List (Nat × V) → Nat → V
  | [], _ => .undef
  | (t', v) :: e, t => bif Nat.beq t t' then v else look e t

theorem look_cons (t' : Nat) (v : V) (e : List (Nat × V)) (t : Nat) : look ((t', v) :: e) t = if t = t' then v else look e t := by
  simp only [look, cond_eq_ite]
  by_cases h : t = t'
  · subst h; simp
  · simp [h]

def constV : Value → V
  | .bool b => .bool b
  | .int k n => .int k n
  | .string s => .str s
  | .pointer none => .nilp
  | .slice none 0 0 => .nils
  | .map none => .nilmap
  | .nilFunc => .nilfn
  | .nilIface => .nili
  | _ => .undef

theorem constV_rv (g : Gh) (x : Value) : RV g (constV x) x := by
  unfold constV
  split <;> first
    | trivial
    | exact ⟨rfl, by simp [RC, Value.cells]⟩

def ev (env : List (Nat × V)) : Operand → V
  | .tmp t => look env t
  | .const v => constV v
  | .global _ => .undef
  | .func f => .fn f [] []

/-- The operation runs on, with a value and a world of which K holds. -/
def OkRes (P : Program) (K : Value → World → Prop) : Result Next → Prop
  | .ok (.value x) w' => K x w'
  | .ok .skip w' => K Go.undef w'
  | .ok (.enter f args) w' => Calls P f args w' fun e w'' => match e with
    | .returned x => K x w''
    | _ => False
  | _ => False

def OpS (P : Program) (o : Oper) (ev : Operand → V) (H : List AObj) (v : V) (H' : List AObj) : Prop :=
  ∀ g (rc : Operand → Value) w, (∀ x ∈ o.op.operands, RV g (ev x) (rc x)) → HR g H w →
    OkRes P (fun x w' => ∃ g', RV g' v x ∧ HR g' H' w' ∧ Ev g H w g' H' w') ((execOp rc o).run P w)

def putD : Option Tmp → V → List (Nat × V) → List (Nat × V)
  | none, _, e => e
  | some d, v, e => (d, v) :: e

/-- The temporaries are as the abstract environment says. -/
def REnv (g : Gh) (env : List (Nat × V)) (a : Act) : Prop := ∀ t, RV g (look env t) (a.tmps.getD t Go.undef)

theorem REnv.mono {g g' : Gh} (h : g.le g') {env : List (Nat × V)} {a : Act} (k : REnv g env a) : REnv g' env a := fun t => (k t).mono h

theorem REnv.ev {g : Gh} {env : List (Nat × V)} {a : Act} (k : REnv g env a) (x : Operand) : RV g (ev env x) (a.eval x) := by
  cases x with
  | tmp t => exact k t
  | const v => exact constV_rv g v
  | global b => trivial
  | func f => exact ⟨rfl, #[], #[], by simp [Act.eval, Value.cells], by simp [RVl], by simp [RVl]⟩

theorem getD_put (a : Act) (d t : Tmp) (x : Value) (hd : d < a.tmps.size) : (a.put (some d) x).tmps.getD t Go.undef = if t = d then x else a.tmps.getD t Go.undef := by
  simp only [Act.put, Array.getD_eq_getD_getElem?]
  by_cases h : t = d
  · subst h; simp [hd]
  · rw [Array.getElem?_setIfInBounds_ne (fun e => h e.symm)]; simp [h]

theorem getD_put_any (a : Act) (d t : Tmp) (x : Value) : (a.put (some d) x).tmps.getD t Go.undef = if t = d ∧ d < a.tmps.size then x else a.tmps.getD t Go.undef := by
  by_cases hd : d < a.tmps.size
  · rw [getD_put a d t x hd]; simp [hd]
  · have : a.put (some d) x = a := by
      cases a; simp only [Act.put] at hd ⊢; rw [Array.setIfInBounds_eq_of_size_le (Nat.le_of_not_lt hd)]
    rw [this]; simp [hd]

theorem size_put (a : Act) (d : Option Tmp) (x : Value) : (a.put d x).tmps.size = a.tmps.size := by
  cases d <;> simp [Act.put]

/-- The frame: its temporaries, how many there are, nothing deferred. -/
structure RAct (g : Gh) (n : Nat) (env : List (Nat × V)) (a : Act) : Prop where
  env : REnv g env a
  size : a.tmps.size = n
  defers : a.defers = []

def okDst (n : Nat) : Option Tmp → Bool
  | none => true
  | some d => d < n

theorem RAct.put {g : Gh} {n : Nat} {env : List (Nat × V)} {a : Act} (h : RAct g n env a) {dst : Option Tmp} (hd : okDst n dst = true) {v : V} {x : Value} (hv : RV g v x) :
    RAct g n (putD dst v env) (a.put dst x) := by
  refine ⟨fun t => ?_, by rw [size_put]; exact h.size, by cases dst <;> exact h.defers⟩
  cases dst with
  | none => exact h.env t
  | some d =>
    simp only [putD, look_cons]
    rw [getD_put a d t x (by rw [h.size]; simpa [okDst] using hd)]
    split
    · exact hv
    · exact h.env t

theorem RAct.mono {g g' : Gh} {n : Nat} {env : List (Nat × V)} {a : Act} (h : RAct g n env a) (le : g.le g') : RAct g' n env a := ⟨h.env.mono le, h.size, h.defers⟩

theorem upon_of_ok {P : Program} {o : Oper} {a : Act} {next : Act → World → Prop} {Q : Exit → Act → World → Prop} {K : Value → World → Prop} {r : Result Next}
    (h : OkRes P K r) (hk : ∀ x w', K x w' → next (a.put o.dst x) w') : o.upon P a next Q r := by
  cases r with
  | ok nx w' =>
    cases nx <;> simp only [OkRes] at h <;> try exact h.elim
    · exact hk _ _ h
    · exact hk _ _ h
    · simp only [Oper.upon]
      refine Calls.mono h fun e w'' he => ?_
      cases e with
      | returned x => exact hk _ _ he
      | panicked c => exact he.elim
      | outgrown => exact he.elim
  | halt x w' => simp only [OkRes] at h

inductive Kd where
  | sil
  | qui
  | new
  | eff
  deriving DecidableEq

def guardDst (ops : Array Oper) (j : Nat) : Option Tmp := (ops[j]?).bind (·.dst)

/-- One operation. -/
inductive Stp (P : Program) (ops : Array Oper) (n : Nat) (o : Oper) (F : List AObj → Prop) : St → Kd → V → St → Prop where
  | sil (s : St) (v : V) (hg : o.guard = none) (hd : okDst n o.dst = true) (h : ∀ H, F H → OpS P o (ev s.env) H v H) : Stp P ops n o F s .sil v ⟨putD o.dst v s.env, s.H⟩
  | qui (s : St) (v : V) (hg : o.guard = none) (hd : okDst n o.dst = true) (h : ∀ X, OpS P o (ev s.env) (s.H ++ X) v (s.H ++ X)) : Stp P ops n o F s .qui v ⟨putD o.dst v s.env, s.H⟩
  | new (s : St) (v : V) (obs : List AObj) (hg : o.guard = none) (hd : okDst n o.dst = true) (h : OpS P o (ev s.env) s.H v (s.H ++ obs)) : Stp P ops n o F s .new v ⟨putD o.dst v s.env, s.H ++ obs⟩
  | eff (s : St) (v : V) (H' : List AObj) (hg : o.guard = none) (hd : okDst n o.dst = true) (h : OpS P o (ev s.env) s.H v H') : Stp P ops n o F s .eff v ⟨putD o.dst v s.env, H'⟩
  | gsil (s : St) (v : V) (j d : Nat) (want : Bool) (c : Prop) [Decidable c] (hg : o.guard = some (j, want)) (hj : guardDst ops j = some d) (hy : c → look s.env d = .bool want)
      (hn : ¬ c → look s.env d = .bool (!want) ∨ look s.env d = .tup []) (hd : okDst n o.dst = true)
      (h : c → ∀ H, F H → OpS P o (ev s.env) H v H) : Stp P ops n o F s .sil (if c then v else .tup []) ⟨putD o.dst (if c then v else .tup []) s.env, s.H⟩
  | gqui (s : St) (v : V) (j d : Nat) (want : Bool) (c : Prop) [Decidable c] (hg : o.guard = some (j, want)) (hj : guardDst ops j = some d) (hy : c → look s.env d = .bool want)
      (hn : ¬ c → look s.env d = .bool (!want) ∨ look s.env d = .tup []) (hd : okDst n o.dst = true)
      (h : c → ∀ X, OpS P o (ev s.env) (s.H ++ X) v (s.H ++ X)) : Stp P ops n o F s .qui (if c then v else .tup []) ⟨putD o.dst (if c then v else .tup []) s.env, s.H⟩
  | gyes (s : St) (v : V) (H' : List AObj) (j d : Nat) (want : Bool) (hg : o.guard = some (j, want)) (hj : guardDst ops j = some d) (hy : look s.env d = .bool want) (hd : okDst n o.dst = true)
      (h : OpS P o (ev s.env) s.H v H') : Stp P ops n o F s .eff v ⟨putD o.dst v s.env, H'⟩
  | gno (s : St) (j d : Nat) (want : Bool) (hg : o.guard = some (j, want)) (hj : guardDst ops j = some d) (hn : look s.env d = .bool (!want) ∨ look s.env d = .tup []) (hd : okDst n o.dst = true) :
      Stp P ops n o F s .sil (.tup []) ⟨putD o.dst (.tup []) s.env, s.H⟩

inductive Steps (P : Program) (ops : Array Oper) (n : Nat) (F : List AObj → Prop) : List Nat → St → List Kd → St → Prop where
  | nil (s : St) (hF : F s.H) : Steps P ops n F [] s [] s
  | cons {i : Nat} {rest : List Nat} {s s₁ s' : St} {k : Kd} {v : V} {ks : List Kd} {o : Oper} (ho : ops[i]? = some o) (hF : F s.H) (h : Stp P ops n o F s k v s₁) (t : Steps P ops n F rest s₁ ks s') :
      Steps P ops n F (i :: rest) s (k :: ks) s'

theorem yielded_of {ops : Array Oper} {a : Act} {j d : Nat} {b : Bool} (hj : guardDst ops j = some d) (h : a.tmps.getD d Go.undef = .bool b) : yielded ops a.tmps j = some b := by
  unfold guardDst at hj
  simp only [yielded, hj, Option.bind_some]
  rw [Array.getD_eq_getD_getElem?] at h
  cases hq : a.tmps[d]? with
  | none => rw [hq] at h; simp [Go.undef] at h
  | some x => rw [hq] at h; simp at h; subst h; rfl

theorem yielded_not {ops : Array Oper} {a : Act} {j d : Nat} {want : Bool} (hj : guardDst ops j = some d) (h : a.tmps.getD d Go.undef = .bool (!want) ∨ a.tmps.getD d Go.undef = .tuple #[]) : (yielded ops a.tmps j == some want) = false := by
  rcases h with h | h
  · rw [yielded_of hj h]; cases want <;> rfl
  · unfold guardDst at hj
    simp only [yielded, hj, Option.bind_some]
    rw [Array.getD_eq_getD_getElem?] at h
    cases hq : a.tmps[d]? with
    | none => rfl
    | some x => rw [hq] at h; simp at h; subst h; rfl

theorem RV.bool_val {g : Gh} {b : Bool} {x : Value} (h : RV g (.bool b) x) : x = .bool b := by
  have hv2 : RC g (.bool b) x.cells.toList := h.2
  simp only [RC] at hv2
  have ha : valAgg x = false := h.1.symm
  cases x <;> simp_all [Value.cells, valAgg]

theorem RV.none_val {g : Gh} {x : Value} (h : RV g (.tup []) x) : x = .tuple #[] := by
  obtain ⟨xs, e, h⟩ := h
  simp only [RVl] at h
  rw [e]
  congr 1
  exact Array.toList_eq_nil_iff.1 h

theorem RV.nothing (g : Gh) : RV g (.tup []) Go.undef := ⟨#[], rfl, by simp [RVl]⟩

/-- What one operation does, wherever its operands are as they were. -/
theorem Stp.run {P : Program} {ops : Array Oper} {n : Nat} {o : Oper} {F : List AObj → Prop} {s s' : St} {k : Kd} {v : V} (h : Stp P ops n o F s k v s') {g : Gh} {a : Act} {w : World} {H H' : List AObj}
    (hop : ∀ x ∈ o.op.operands, RV g (ev s.env x) (a.eval x))
    (hgd : ∀ j want d, o.guard = some (j, want) → guardDst ops j = some d → RV g (look s.env d) (a.tmps.getD d Go.undef))
    (hF : F H) (hH : (k = .sil ∧ H' = H) ∨ (k = .qui ∧ (∃ X, H = s.H ++ X) ∧ H' = H) ∨ (k ≠ .sil ∧ H = s.H ∧ H' = s'.H)) (hr : HR g H w)
    {Q : Exit → Act → World → Prop} {i : Nat} (ho : ops[i]? = some o) {K : Act → World → Prop}
    (hk : ∀ g' x w', RV g' v x → HR g' H' w' → Ev g H w g' H' w' → K (a.put o.dst x) w') : wpOp P ops Q i K a w := by
  have hyes : ∀ j want d, o.guard = some (j, want) → guardDst ops j = some d → look s.env d = .bool want → Region.wanted o (yielded ops a.tmps) = true := by
    intro j want d h1 h2 h3
    have hv := hgd j want d h1 h2
    rw [h3] at hv
    simp [Region.wanted, h1, yielded_of h2 hv.bool_val]
  have hno : ∀ j want d, o.guard = some (j, want) → guardDst ops j = some d → (look s.env d = .bool (!want) ∨ look s.env d = .tup []) → ¬ Region.wanted o (yielded ops a.tmps) = true := by
    intro j want d h1 h2 h3
    have hv := hgd j want d h1 h2
    have : (yielded ops a.tmps j == some want) = false := yielded_not h2 (by
      rcases h3 with h3 | h3
      · rw [h3] at hv; exact .inl hv.bool_val
      · rw [h3] at hv; exact .inr hv.none_val)
    simp only [Region.wanted, h1]
    rw [this]
    simp
  have fin : ∀ (H₀ H₁ : List AObj), OpS P o (ev s.env) H₀ v H₁ → H = H₀ → H' = H₁ → o.wp P a w K Q := by
    intro H₀ H₁ hop' e1 e2
    subst e1 e2
    unfold Oper.wp
    exact upon_of_ok (hop' g a.eval w hop hr) fun x w' ⟨g', h1, h2, h3⟩ => hk g' x w' h1 h2 h3
  unfold wpOp
  simp only [ho]
  cases h with
  | sil _ hg hd hs =>
    have hw : Region.wanted o (yielded ops a.tmps) = true := by simp [Region.wanted, hg]
    rw [if_pos hw]
    rcases hH with ⟨_, e⟩ | ⟨e, _⟩ | ⟨e, _⟩
    · exact .inl (fin H H (hs H hF) rfl e)
    · cases e
    · exact absurd rfl e
  | qui _ hg hd hs =>
    have hw : Region.wanted o (yielded ops a.tmps) = true := by simp [Region.wanted, hg]
    rw [if_pos hw]
    rcases hH with ⟨e, _⟩ | ⟨_, ⟨X, e1⟩, e2⟩ | ⟨_, e1, e2⟩
    · cases e
    · subst e1; exact .inl (fin _ _ (hs X) rfl e2)
    · exact .inl (fin s.H s.H (by simpa using hs []) e1 e2)
  | new _ obs hg hd hs =>
    have hw : Region.wanted o (yielded ops a.tmps) = true := by simp [Region.wanted, hg]
    rw [if_pos hw]
    rcases hH with ⟨e, _⟩ | ⟨e, _⟩ | ⟨_, e1, e2⟩
    · cases e
    · cases e
    · exact .inl (fin s.H _ hs e1 e2)
  | eff _ H2 hg hd hs =>
    have hw : Region.wanted o (yielded ops a.tmps) = true := by simp [Region.wanted, hg]
    rw [if_pos hw]
    rcases hH with ⟨e, _⟩ | ⟨e, _⟩ | ⟨_, e1, e2⟩
    · cases e
    · cases e
    · exact .inl (fin s.H H2 hs e1 e2)
  | gsil v' j d want c hg hj hy hn hd hs =>
    have hHH : H' = H := by
      rcases hH with ⟨_, e⟩ | ⟨e, _⟩ | ⟨e, _⟩
      · exact e
      · cases e
      · exact absurd rfl e
    by_cases hc : c
    · rw [if_pos (hyes j want d hg hj (hy hc))]
      simp only [hc, if_true] at fin
      exact .inl (fin H H (hs hc H hF) rfl hHH)
    · rw [if_neg (hno j want d hg hj (hn hc))]
      subst hHH
      simp only [hc, if_false] at hk
      exact hk g _ w (.nothing g) hr (.refl _ _ _)
  | gqui v' j d want c hg hj hy hn hd hs =>
    have hX : ∃ X, H = s.H ++ X ∧ H' = H := by
      rcases hH with ⟨e, _⟩ | ⟨_, ⟨X, e1⟩, e2⟩ | ⟨_, e1, e2⟩
      · cases e
      · exact ⟨X, e1, e2⟩
      · exact ⟨[], by simp [e1], by rw [e1]; exact e2⟩
    obtain ⟨X, e1, e2⟩ := hX
    by_cases hc : c
    · rw [if_pos (hyes j want d hg hj (hy hc))]
      simp only [hc, if_true] at fin
      exact .inl (fin _ _ (hs hc X) e1 (e2.trans e1))
    · rw [if_neg (hno j want d hg hj (hn hc))]
      subst e2
      simp only [hc, if_false] at hk
      exact hk g _ w (.nothing g) hr (.refl _ _ _)
  | gyes _ H2 j d want hg hj hy hd hs =>
    rw [if_pos (hyes j want d hg hj hy)]
    rcases hH with ⟨e, _⟩ | ⟨e, _⟩ | ⟨_, e1, e2⟩
    · cases e
    · cases e
    · exact .inl (fin s.H H2 hs e1 e2)
  | gno j d want hg hj hn hd =>
    rw [if_neg (hno j want d hg hj hn)]
    rcases hH with ⟨_, e⟩ | ⟨e, _⟩ | ⟨e, _⟩
    · subst e
      exact hk g _ w (.nothing g) hr (.refl _ _ _)
    · cases e
    · exact absurd rfl e

theorem Stp.env {P : Program} {ops : Array Oper} {n : Nat} {o : Oper} {F : List AObj → Prop} {s s' : St} {k : Kd} {v : V} (h : Stp P ops n o F s k v s') : s'.env = putD o.dst v s.env ∧ okDst n o.dst = true ∧ (k ≠ .eff → k ≠ .new → s'.H = s.H) ∧ (k = .new → ∃ X, s'.H = s.H ++ X) := by
  cases h <;> exact ⟨rfl, by assumption, fun h h' => by first | rfl | exact absurd rfl h | exact absurd rfl h', fun h => by first | (cases h; done) | exact ⟨_, rfl⟩⟩

/-- The steps in the text's order. -/
theorem Steps.run {P : Program} {ops : Array Oper} {n : Nat} {F : List AObj → Prop} {Q : Exit → Act → World → Prop} : ∀ {l : List Nat} {s s' : St} {ks : List Kd}, Steps P ops n F l s ks s' →
    ∀ {g : Gh} {a : Act} {w : World}, RAct g n s.env a → HR g s.H w → (∀ g' a' w', RAct g' n s'.env a' → HR g' s'.H w' → Ev g s.H w g' s'.H w' → Q .normal a' w') → wpOps P ops Q l a w := by
  intro l s s' ks h
  induction h with
  | nil s _ => intro g a w ha hr hq; exact hq g a w ha hr (.refl _ _ _)
  | @cons i rest s s₁ s' k v ks o ho hF h t ih =>
    intro g a w ha hr hq
    rw [wpOps_cons]
    obtain ⟨e1, e2, e3, _⟩ := h.env
    refine h.run (g := g) (H := s.H) (H' := s₁.H) (fun x _ => ha.env.ev x) (fun j want d _ _ => ha.env d) hF ?_ hr ho ?_
    · cases k with
      | sil => exact .inl ⟨rfl, e3 (by simp) (by simp)⟩
      | qui => exact .inr (.inr ⟨by simp, rfl, rfl⟩)
      | new => exact .inr (.inr ⟨by simp, rfl, rfl⟩)
      | eff => exact .inr (.inr ⟨by simp, rfl, rfl⟩)
    · intro g' x w' hv hr' hev
      have ha' : RAct g' n s₁.env (a.put o.dst x) := by rw [e1]; exact (ha.mono hev.le).put e2 hv
      exact ih ha' hr' fun g'' a'' w'' h1 h2 h3 => hq g'' a'' w'' h1 h2 (hev.trans h3)

end Go.Av
