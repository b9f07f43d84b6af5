/- Statements over abstract states; calls. -/
import Derived.Test.YtdbiobndihpccabAvCore5
namespace Go.Av
set_option linter.unusedVariables false
set_option linter.unusedSimpArgs false

inductive AEx where
  | normal
  | exit (id : Nat)
  | goto (l : Nat)
  | ret
  | panic (v : V)

def PanRel (g : Gh) (ch : List PanicEntry) (v : V) : Prop := ∃ x, ch = [{ v := x, recovered := false }] ∧ RV g v x

def ExRel (g : Gh) : Exit → AEx → Prop
  | .normal, .normal => True
  | .exit i, .exit j => i = j
  | .goto i, .goto j => i = j
  | .ret, .ret => True
  | .panic ch, .panic v => PanRel g ch v
  | _, _ => False

/-- Where a function's run began. -/
structure Base where
  g : Gh
  H : List AObj
  w : World

def post (Q : AEx → St → Prop) (n : Nat) (B : Base) : Exit → Act → World → Prop :=
  fun e a w => ∃ g s ae, Q ae s ∧ ExRel g e ae ∧ RAct g n s.env a ∧ HR g s.H w ∧ Ev B.g B.H B.w g s.H w

def AWp (P : Program) (n : Nat) (m : Nat) (c : Code) (Q : AEx → St → Prop) (s : St) : Prop :=
  ∀ (B : Base) g a w, B.H.length = m → B.g.ρ.length = m → RAct g n s.env a → HR g s.H w → Ev B.g B.H B.w g s.H w → c.wp P (post Q n B) a w

section
variable {P : Program} {n m : Nat} {Q : AEx → St → Prop} {s : St}

theorem AWp.skip (h : Q .normal s) : AWp P n m .skip Q s := fun _ g _ _ _ _ h1 h2 h3 => wp_skip ⟨g, s, .normal, h, trivial, h1, h2, h3⟩
theorem AWp.label {l : Nat} (h : Q .normal s) : AWp P n m (.label l) Q s := fun _ g _ _ _ _ h1 h2 h3 => wp_label ⟨g, s, .normal, h, trivial, h1, h2, h3⟩
theorem AWp.exit {id : Nat} (h : Q (.exit id) s) : AWp P n m (.exit id) Q s := fun _ g _ _ _ _ h1 h2 h3 => wp_exit ⟨g, s, .exit id, h, rfl, h1, h2, h3⟩
theorem AWp.goto {l : Nat} (h : Q (.goto l) s) : AWp P n m (.goto l) Q s := fun _ g _ _ _ _ h1 h2 h3 => wp_goto ⟨g, s, .goto l, h, rfl, h1, h2, h3⟩
theorem AWp.ret (h : Q .ret s) : AWp P n m .ret Q s := fun _ g _ _ _ _ h1 h2 h3 => wp_ret ⟨g, s, .ret, h, trivial, h1, h2, h3⟩

theorem AWp.mono {Q' : AEx → St → Prop} {c : Code} (h : AWp P n m c Q s) (hq : ∀ e s, Q e s → Q' e s) : AWp P n m c Q' s :=
  fun B g a w b1 b2 h1 h2 h3 => wp_mono (h B g a w b1 b2 h1 h2 h3) fun _ _ _ ⟨g, s, ae, x, y⟩ => ⟨g, s, ae, hq _ _ x, y⟩

def thenQ (next : St → Prop) (Q : AEx → St → Prop) : AEx → St → Prop
  | .normal, s => next s
  | e, s => Q e s

theorem AWp.seq {x y : Code} (h : AWp P n m x (thenQ (AWp P n m y Q) Q) s) : AWp P n m (.seq x y) Q s := by
  intro B g a w b1 b2 h1 h2 h3
  refine wp_seq (wp_mono (h B g a w b1 b2 h1 h2 h3) ?_)
  rintro e a' w' ⟨g', s', ae, hq, hx, r1, r2, r3⟩
  cases e <;> cases ae <;> simp only [ExRel] at hx <;> try exact hx.elim
  · exact hq B g' a' w' b1 b2 r1 r2 r3
  · exact ⟨g', s', _, hq, hx, r1, r2, r3⟩
  · exact ⟨g', s', _, hq, hx, r1, r2, r3⟩
  · exact ⟨g', s', _, hq, trivial, r1, r2, r3⟩
  · exact ⟨g', s', _, hq, hx, r1, r2, r3⟩

theorem RV.bool_eq {g : Gh} {b : Bool} {x : Value} (h : RV g (.bool b) x) : x = .bool b := h.bool_val

theorem RV.int_eq {g : Gh} {k : IntKind} {i : Int} {x : Value} (h : RV g (.int k i) x) : x = .int k i := by
  have hv2 : RC g (.int k i) x.cells.toList := h.2
  simp only [RC] at hv2
  have ha : valAgg x = false := h.1.symm
  cases x <;> simp_all [Value.cells, valAgg]

theorem AWp.cond {c : Operand} {x y : Code} {b : Bool} (hc : ev s.env c = .bool b) (h1 : b = true → AWp P n m x Q s) (h2 : b = false → AWp P n m y Q s) :
    AWp P n m (.cond c x y) Q s := by
  intro B g a w b1 b2 r1 r2 r3
  have hv := r1.env.ev c
  rw [hc] at hv
  have he := hv.bool_eq
  cases b with
  | true => exact wp_cond he (h1 rfl B g a w b1 b2 r1 r2 r3)
  | false => exact wp_cond he (h2 rfl B g a w b1 b2 r1 r2 r3)

def blockQ (id : Nat) (Q : AEx → St → Prop) : AEx → St → Prop
  | .exit id', s => if id' = id then Q .normal s else Q (.exit id') s
  | e, s => Q e s

theorem AWp.block {id : Nat} {c : Code} (h : AWp P n m c (blockQ id Q) s) : AWp P n m (.block id c) Q s := by
  intro B g a w b1 b2 h1 h2 h3
  refine wp_block (wp_mono (h B g a w b1 b2 h1 h2 h3) ?_)
  rintro e a' w' ⟨g', s', ae, hq, hx, r⟩
  cases e <;> cases ae <;> simp only [ExRel] at hx <;> try exact hx.elim
  · exact ⟨g', s', _, hq, trivial, r⟩
  · subst hx
    simp only [Exit.inBlock, blockQ] at hq ⊢
    split <;> rename_i hid
    · rw [if_pos hid] at hq; exact ⟨g', s', _, hq, trivial, r⟩
    · rw [if_neg hid] at hq; exact ⟨g', s', _, hq, rfl, r⟩
  · exact ⟨g', s', _, hq, hx, r⟩
  · exact ⟨g', s', _, hq, trivial, r⟩
  · exact ⟨g', s', _, hq, hx, r⟩

theorem AWp.region {F : List AObj → Prop} {id : Nat} {ops : Array Oper} {s' : St} {ks : List Kd}
    (h : Steps P ops n F (List.range ops.size) s ks s') (hq : Q .normal s') : AWp P n m (.region id ops false) Q s :=
  fun _ _ _ _ _ _ h1 h2 h3 => h.regionN h1 h2 fun g' _ _ r1 r2 r3 => ⟨g', s', .normal, hq, trivial, r1, r2, h3.trans r3⟩

theorem AWp.regionD {F : List AObj → Prop} (hm : P.follows .mixedOrders = true) {id : Nat} {ops : Array Oper} {s' : St} (ord : List Nat) {ks : List Kd}
    (h : Steps P ops n F ord s ks s') (hd : dOK ops ord ks = true) (hq : Q .normal s') : AWp P n m (.region id ops true) Q s :=
  fun _ _ _ _ _ _ h1 h2 h3 => h.regionD hm hd h1 h2 fun g' _ _ r1 r2 r3 => ⟨g', s', .normal, hq, trivial, r1, r2, h3.trans r3⟩

/-- A loop: by an invariant and a number that falls. -/
theorem AWp.loop {ι : Type} {c : Code} (I : ι → St → Prop) (μ : ι → Nat) (i₀ : ι) (h0 : I i₀ s)
    (round : ∀ i s, I i s → AWp P n m c (thenQ (fun s' => ∃ j, μ j < μ i ∧ I j s') Q) s) : AWp P n m (.loop c) Q s := by
  intro B g a w b1 b2 h1 h2 h3
  let good : Act → World → Nat → Prop := fun a w k => ∃ g s i, μ i = k ∧ I i s ∧ RAct g n s.env a ∧ HR g s.H w ∧ Ev B.g B.H B.w g s.H w
  let lst : Act → World → Nat := fun a w => Classical.epsilon fun k => good a w k ∧ ∀ k', good a w k' → k ≤ k'
  have hl : ∀ a w k, good a w k → good a w (lst a w) ∧ ∀ k', good a w k' → lst a w ≤ k' := by
    intro a w k
    induction k using Nat.strongRecOn with
    | _ k ih =>
      intro hk
      by_cases hex : ∃ k', k' < k ∧ good a w k'
      · obtain ⟨k', hlt, hk'⟩ := hex
        exact ih k' hlt hk'
      · exact Classical.epsilon_spec (p := fun k => good a w k ∧ ∀ k', good a w k' → k ≤ k') ⟨k, hk, fun k' hk' => Nat.le_of_not_lt fun hlt => hex ⟨k', hlt, hk'⟩⟩
  refine wp_loop (fun a w => ∃ k, good a w k) lst ⟨_, g, s, i₀, rfl, h0, h1, h2, h3⟩ ?_
  rintro a w ⟨k, hk⟩
  obtain ⟨⟨g, s, i, e, hI, r1, r2, r3⟩, _⟩ := hl a w k hk
  refine wp_mono (round i s hI B g a w b1 b2 r1 r2 r3) ?_
  rintro ex a' w' ⟨g', s', ae, hq, hx, q1, q2, q3⟩
  cases ex <;> cases ae <;> simp only [ExRel] at hx <;> try exact hx.elim
  · obtain ⟨j, hlt, hj⟩ := hq
    have hg : good a' w' (μ j) := ⟨g', s', j, rfl, hj, q1, q2, q3⟩
    exact ⟨⟨_, hg⟩, by have := (hl a' w' _ hg).2 _ hg; omega⟩
  · exact ⟨g', s', _, hq, hx, q1, q2, q3⟩
  · exact ⟨g', s', _, hq, hx, q1, q2, q3⟩
  · exact ⟨g', s', _, hq, trivial, q1, q2, q3⟩
  · exact ⟨g', s', _, hq, hx, q1, q2, q3⟩

end

/-- One abstract value tells no more than another one. -/
def V.sub (v v' : V) : Prop := ∀ g x, RV g v x → RV g v' x
theorem V.sub.refl (v : V) : v.sub v := fun _ _ h => h
theorem V.sub.undef (v : V) : v.sub .undef := fun _ _ _ => trivial
theorem V.sub.trans {a b c : V} (h : a.sub b) (k : b.sub c) : a.sub c := fun g x r => k g x (h g x r)

theorem V.sub.nils (e : Nat) : V.sub .nils (.sl e .exact []) := by
  intro g x h
  have h2 : RC g .nils x.cells.toList := h.2
  refine ⟨h.1, ?_⟩
  simp only [RC] at h2 ⊢
  exact ⟨none, 0, h2, by simp, rfl, [], by simp [RCu], fun _ => rfl, fun ad h => by cases h⟩

theorem V.sub.forget (e : Nat) (tk : Tk) (xs : List V) : V.sub (.sl e tk xs) (.sl e .no xs) := by
  intro g x h
  have h2 : RC g (.sl e tk xs) x.cells.toList := h.2
  refine ⟨h.1, ?_⟩
  simp only [RC] at h2 ⊢
  obtain ⟨a, cap, h1, h3, h4, h5⟩ := h2
  exact ⟨a, cap, h1, h3, trivial, h5⟩

theorem V.sub.nils_no (e : Nat) : V.sub .nils (.sl e .no []) := (V.sub.nils e).trans (V.sub.forget e _ _)

def EnvSub (e e' : List (Nat × V)) : Prop := ∀ t, (look e t).sub (look e' t)

theorem EnvSub.refl (e : List (Nat × V)) : EnvSub e e := fun _ => .refl _

theorem EnvSub.of {e : List (Nat × V)} : ∀ {e' : List (Nat × V)}, (∀ p ∈ e', (look e p.1).sub p.2) → EnvSub e e'
  | [], _, _ => .undef _
  | (t', v) :: e', h, t => by
    rw [look_cons]
    split
    · rename_i heq; subst heq; exact h (t, v) (by simp)
    · exact EnvSub.of (fun p hp => h p (by simp [hp])) t

theorem RAct.sub {g : Gh} {n : Nat} {e e' : List (Nat × V)} {a : Act} (h : RAct g n e a) (k : EnvSub e e') : RAct g n e' a := ⟨fun t => k t g _ (h.env t), h.size, h.defers⟩

/-- Whatever is as the first state says is as the second one says. -/
def Wk (n m : Nat) (s s' : St) : Prop :=
  ∀ (B : Base) g a w, B.H.length = m → B.g.ρ.length = m → RAct g n s.env a → HR g s.H w → Ev B.g B.H B.w g s.H w →
    ∃ g', RAct g' n s'.env a ∧ HR g' s'.H w ∧ Ev B.g B.H B.w g' s'.H w

theorem Wk.refl {n m : Nat} (s : St) : Wk n m s s := fun _ g _ _ _ _ h1 h2 h3 => ⟨g, h1, h2, h3⟩
theorem Wk.trans {n m : Nat} {s s' s'' : St} (h : Wk n m s s') (k : Wk n m s' s'') : Wk n m s s'' := fun B g a w b1 b2 h1 h2 h3 =>
  let ⟨g', q1, q2, q3⟩ := h B g a w b1 b2 h1 h2 h3
  k B g' a w b1 b2 q1 q2 q3

theorem AWp.wk {P : Program} {n m : Nat} {Q : AEx → St → Prop} {s s' : St} {c : Code} (k : Wk n m s s') (h : AWp P n m c Q s') : AWp P n m c Q s :=
  fun B g a w b1 b2 h1 h2 h3 => let ⟨g', q1, q2, q3⟩ := k B g a w b1 b2 h1 h2 h3; h B g' a w b1 b2 q1 q2 q3

theorem Wk.keep {n m : Nat} {env env' : List (Nat × V)} {H : List AObj} (k : EnvSub env env') : Wk n m ⟨env, H⟩ ⟨env', H⟩ :=
  fun _ g _ _ _ _ h1 h2 h3 => ⟨g, h1.sub k, h2, h3⟩

theorem AWp.keep {P : Program} {n m : Nat} {Q : AEx → St → Prop} {s : St} {c : Code} (env' : List (Nat × V)) (k : EnvSub s.env env') (h : AWp P n m c Q ⟨env', s.H⟩) : AWp P n m c Q s :=
  .wk (.keep k) h

/-! Calls. -/

inductive Out where
  | ret (v : V)
  | pan (v : V)

def RVs (g : Gh) : List V → List Value → Prop
  | [], xs => xs = []
  | v :: vs, xs => ∃ x r, xs = x :: r ∧ RV g v x ∧ RVs g vs r

theorem RVs.mono {g g' : Gh} (h : g.le g') : ∀ {vs : List V} {xs : List Value}, RVs g vs xs → RVs g' vs xs
  | [], _, k => k
  | _ :: _, _, k => by
    obtain ⟨x, r, h1, h2, h3⟩ := k
    exact ⟨x, r, h1, h2.mono h, RVs.mono h h3⟩

def OutRel (g : Gh) : Ending → Out → Prop
  | .returned x, .ret v => RV g v x
  | .panicked ch, .pan v => PanRel g ch v
  | _, _ => False

def CallSpec (P : Program) (f : FuncId) (args : List V) (H : List AObj) (R : Out → List AObj → Prop) : Prop :=
  ∀ g w (xs : List Value), RVs g args xs → HR g H w → Calls P f xs.toArray w fun e w' => ∃ g' H' o, R o H' ∧ OutRel g' e o ∧ HR g' H' w' ∧ Ev g H w g' H' w'

theorem CallSpec.mono {P : Program} {f : FuncId} {args : List V} {H : List AObj} {R R' : Out → List AObj → Prop} (h : CallSpec P f args H R) (k : ∀ o H', R o H' → R' o H') : CallSpec P f args H R' :=
  fun g w xs h1 h2 => (h g w xs h1 h2).mono fun _ _ ⟨g', H', o, r, x⟩ => ⟨g', H', o, k _ _ r, x⟩

inductive SubL : List V → List V → Prop where
  | nil : SubL [] []
  | cons {v v' : V} {vs vs' : List V} (h : v.sub v') (t : SubL vs vs') : SubL (v :: vs) (v' :: vs')

theorem SubL.refl : ∀ (l : List V), SubL l l
  | [] => .nil
  | v :: l => .cons (.refl v) (SubL.refl l)

theorem RVs.sub {g : Gh} {vs vs' : List V} (h : SubL vs vs') : ∀ {xs : List Value}, RVs g vs xs → RVs g vs' xs := by
  induction h with
  | nil => exact fun h => h
  | cons h _ ih =>
    rintro xs ⟨x, r, h1, h2, h3⟩
    exact ⟨x, r, h1, h _ _ h2, ih h3⟩

theorem CallSpec.sub {P : Program} {f : FuncId} {args args' : List V} {H : List AObj} {R : Out → List AObj → Prop} (h : CallSpec P f args' H R) (k : SubL args args') : CallSpec P f args H R :=
  fun g w xs h1 h2 => h g w xs (h1.sub k) h2

/-- The first so many numbers of objects alone are named. -/
def Tk.lt (m : Nat) : Tk → Bool
  | .tok o => Nat.blt o m
  | _ => true

mutual
def V.lt (m : Nat) : V → Bool
  | .ptr o _ _ => Nat.blt o m
  | .cptr v => v.lt m
  | .sl _ tk xs => tk.lt m && V.ltL m xs
  | .slo _ o _ _ _ _ _ => Nat.blt o m
  | .fn _ a b => V.ltL m a && V.ltL m b
  | .ifc _ v => v.lt m
  | .st vs => V.ltL m vs
  | .arr _ vs => V.ltL m vs
  | .tup vs => V.ltL m vs
  | .map o => Nat.blt o m
  | _ => true
def V.ltL (m : Nat) : List V → Bool
  | [] => true
  | v :: vs => v.lt m && V.ltL m vs
end

structure Gh.alike (m : Nat) (g g' : Gh) : Prop where
  imm : ∀ b i x, g.I b i = some x → g'.I b i = some x
  pre : ∀ (o : Nat) p, o < m → g.ρ[o]? = some p → g'.ρ[o]? = some p

theorem Tk.ok.alike {m : Nat} {g g' : Gh} (h : g.alike m g') {e : Nat} {tk : Tk} {a : Option Addr} {len cap : Nat} (hl : tk.lt m = true) (k : tk.ok g e a len cap) : tk.ok g' e a len cap := by
  cases tk with
  | no => trivial
  | nn => exact k
  | exact => exact k
  | tok o =>
    rcases k with k | ⟨p, ad, h1, h2⟩
    · exact .inl k
    · exact .inr ⟨p, ad, h.pre _ _ (Eq.mp Nat.blt_eq hl) h1, h2⟩

theorem Gh.holds.alike {m : Nat} {g g' : Gh} (h : g.alike m g') {a : Addr} {cs : List Value} (k : g.holds a cs) : g'.holds a cs := fun i x hx => h.imm _ _ _ (k i x hx)

mutual
theorem RC.alike {m : Nat} {g g' : Gh} (h : g.alike m g') : ∀ {v : V} {cs : List Value}, v.lt m = true → RC g v cs → RC g' v cs
  | .bool _, _, _, k => by simpa only [RC] using k
  | .int _ _, _, _, k => by simpa only [RC] using k
  | .str _, _, _, k => by simpa only [RC] using k
  | .nilp, _, _, k => by simpa only [RC] using k
  | .ptr _ _ _, _, hl, k => by
    simp only [RC] at k ⊢
    obtain ⟨p, h1, h2⟩ := k
    exact ⟨p, h.pre _ _ (Eq.mp Nat.blt_eq (by simpa only [V.lt] using hl)) h1, h2⟩
  | .cptr _, _, hl, k => by
    simp only [RC] at k ⊢
    obtain ⟨a, c, h1, h2, h3, h4⟩ := k
    exact ⟨a, c, h1, h2, RC.alike h (by simpa only [V.lt] using hl) h3, h4.alike h⟩
  | .nils, _, _, k => by simpa only [RC] using k
  | .sl _ _ _, _, hl, k => by
    simp only [V.lt, Bool.and_eq_true] at hl
    simp only [RC] at k ⊢
    obtain ⟨a, cap, h1, h2, h3, c, h4, h5, h6⟩ := k
    exact ⟨a, cap, h1, h2, h3.alike h hl.1, c, RCu.alike h hl.2 h4, h5, fun ad e => ⟨(h6 ad e).1, (h6 ad e).2.alike h⟩⟩
  | .slo _ _ _ _ _ _ _, _, hl, k => by
    simp only [RC] at k ⊢
    obtain ⟨p, h1, h2⟩ := k
    exact ⟨p, h.pre _ _ (Eq.mp Nat.blt_eq (by simpa only [V.lt] using hl)) h1, h2⟩
  | .fn _ _ _, _, hl, k => by
    simp only [V.lt, Bool.and_eq_true] at hl
    simp only [RC] at k ⊢
    obtain ⟨a, b, h1, h2, h3⟩ := k
    exact ⟨a, b, h1, RVl.alike h hl.1 h2, RVl.alike h hl.2 h3⟩
  | .nilfn, _, _, k => by simpa only [RC] using k
  | .ifc _ _, _, hl, k => by
    simp only [RC] at k ⊢
    obtain ⟨x, h1, h2, h3⟩ := k
    exact ⟨x, h1, h2, RC.alike h (by simpa only [V.lt] using hl) h3⟩
  | .nili, _, _, k => by simpa only [RC] using k
  | .st _, _, hl, k => by
    simp only [RC] at k ⊢
    exact RCs.alike h (by simpa only [V.lt] using hl) k
  | .arr _ _, _, hl, k => by
    simp only [RC] at k ⊢
    exact RCu.alike h (by simpa only [V.lt] using hl) k
  | .tup _, _, _, k => by simp only [RC] at k
  | .map _, _, hl, k => by
    simp only [RC] at k ⊢
    obtain ⟨p, h1, h2⟩ := k
    exact ⟨p, h.pre _ _ (Eq.mp Nat.blt_eq (by simpa only [V.lt] using hl)) h1, h2⟩
  | .nilmap, _, _, k => by simpa only [RC] using k
  | .undef, _, _, k => by simp only [RC] at k
theorem RCs.alike {m : Nat} {g g' : Gh} (h : g.alike m g') : ∀ {vs : List V} {cs : List Value}, V.ltL m vs = true → RCs g vs cs → RCs g' vs cs
  | [], _, _, k => by simpa only [RCs] using k
  | _ :: _, _, hl, k => by
    simp only [V.ltL, Bool.and_eq_true] at hl
    simp only [RCs] at k ⊢
    obtain ⟨a, b, h1, h2, h3⟩ := k
    exact ⟨a, b, h1, RC.alike h hl.1 h2, RCs.alike h hl.2 h3⟩
theorem RCu.alike {m : Nat} {g g' : Gh} (h : g.alike m g') : ∀ {e : Nat} {vs : List V} {cs : List Value}, V.ltL m vs = true → RCu g e vs cs → RCu g' e vs cs
  | _, [], _, _, k => by simpa only [RCu] using k
  | _, _ :: _, _, hl, k => by
    simp only [V.ltL, Bool.and_eq_true] at hl
    simp only [RCu] at k ⊢
    obtain ⟨a, b, h1, h0, h2, h3⟩ := k
    exact ⟨a, b, h1, h0, RC.alike h hl.1 h2, RCu.alike h hl.2 h3⟩
theorem RVl.alike {m : Nat} {g g' : Gh} (h : g.alike m g') : ∀ {vs : List V} {cs : List Value}, V.ltL m vs = true → RVl g vs cs → RVl g' vs cs
  | [], _, _, k => by simpa only [RVl] using k
  | _ :: _, _, hl, k => by
    simp only [V.ltL, Bool.and_eq_true] at hl
    simp only [RVl] at k ⊢
    obtain ⟨a, b, h1, h0, h2, h3⟩ := k
    exact ⟨a, b, h1, h0, RC.alike h hl.1 h2, RVl.alike h hl.2 h3⟩
end

theorem RV.alike {m : Nat} {g g' : Gh} (h : g.alike m g') {v : V} {x : Value} (hl : v.lt m = true) (k : RV g v x) : RV g' v x := by
  cases v <;> first
    | trivial
    | (simp only [V.lt] at hl; obtain ⟨xs, e, k⟩ := k; exact ⟨xs, e, k.alike h hl⟩)
    | exact ⟨k.1, k.2.alike h hl⟩

theorem RVs.alike {m : Nat} {g g' : Gh} (h : g.alike m g') : ∀ {vs : List V} {xs : List Value}, V.ltL m vs = true → RVs g vs xs → RVs g' vs xs
  | [], _, _, k => k
  | _ :: _, _, hl, k => by
    simp only [V.ltL, Bool.and_eq_true] at hl
    obtain ⟨x, r, h1, h2, h3⟩ := k
    exact ⟨x, r, h1, h2.alike h hl.1, RVs.alike h hl.2 h3⟩

def esLt (m : Nat) : List (V × V) → Bool
  | [] => true
  | kv :: r => kv.1.lt m && kv.2.lt m && esLt m r

def AObj.lt (m : Nat) : AObj → Bool
  | .cells v => v.lt m
  | .buf _ vs => V.ltL m vs
  | .map es => esLt m es
  | _ => true

theorem REs.alike {m : Nat} {g g' : Gh} (h : g.alike m g') : ∀ {es : List (V × V)} {l : List MapEntry}, esLt m es = true → REs g es l → REs g' es l
  | [], _, _, k => k
  | _ :: _, _, hl, k => by
    simp only [esLt, Bool.and_eq_true] at hl
    obtain ⟨e, es, h1, h2, h3, h4⟩ := k
    exact ⟨e, es, h1, h2.alike h hl.1.1, h3.alike h hl.1.2, REs.alike h hl.2 h4⟩

def Out.lt (m : Nat) : Out → Bool
  | .ret v => v.lt m
  | .pan v => v.lt m

theorem OutRel.alike {m : Nat} {g g' : Gh} (h : g.alike m g') {e : Ending} {o : Out} (hl : o.lt m = true) (k : OutRel g e o) : OutRel g' e o := by
  cases e <;> cases o <;> simp only [OutRel] at k ⊢
  · exact k.alike h hl
  · obtain ⟨x, h1, h2⟩ := k
    exact ⟨x, h1, h2.alike h hl⟩

/-- A function that is handed no object of the caller's, and hands none out: with whatever objects there are. -/
theorem CallSpec.frame {P : Program} {f : FuncId} {args : List V} {R : Out → List AObj → Prop} (h : CallSpec P f args [] R) (ha : V.ltL 0 args = true) (hR : ∀ o H', R o H' → o.lt 0 = true) (H : List AObj) :
    CallSpec P f args H fun o H' => (∃ H₀, R o H₀) ∧ H' = H := by
  intro g w xs hx hr
  have al : g.alike 0 { I := g.I, ρ := [] } := ⟨fun _ _ _ h => h, fun o p h => by omega⟩
  have hr0 : HR { I := g.I, ρ := [] } [] w := ⟨hr.agree, rfl, fun o p ob h => by simp at h, fun o o' p p' ob ob' h => by simp at h⟩
  refine (h _ w xs (hx.alike al ha) hr0).mono ?_
  rintro e w' ⟨g', H', o, hRo, ho, hr', hev⟩
  have nolv : ∀ b, ¬ Lv { I := g.I, ρ := [] } [] b := by rintro b ⟨o, p, ob, h, _⟩; simp at h
  have le : g.le { I := g'.I, ρ := g.ρ } := ⟨fun b i x hx => hev.le.imm b i x hx, fun _ _ h => h⟩
  refine ⟨{ I := g'.I, ρ := g.ρ }, H, o, ⟨⟨H', hRo⟩, rfl⟩, OutRel.alike (m := 0) (g := g') (g' := { I := g'.I, ρ := g.ρ }) ⟨fun _ _ _ h => h, fun o p h => by omega⟩ (hR o H' hRo) ho, ⟨hr'.agree, hr.len, ?_, hr.inj⟩, ⟨le, hev.os, hev.tape, hev.output, hev.size, hev.drawn, ?_, ?_, fun b hb => .inl hb⟩⟩
  · intro a p ob h1 h2
    cases hlive : p.own ob with
    | false => exact (hr.obj a p ob h1 h2).free hlive
    | true =>
      have hb := (hr.obj a p ob h1 h2).inb hlive
      exact (hr.obj a p ob h1 h2).keep le (hev.keep _ hb (nolv _)) (fun i => hev.imm _ i hb (nolv _))
  · exact fun b hb _ => hev.keep b hb (nolv _)
  · exact fun b i hb _ => hev.imm b i hb (nolv _)

/-- What was made since is no longer spoken of. -/
theorem HR.take {g : Gh} {H : List AObj} {w : World} (h : HR g H w) (m : Nat) (hl : ∀ ob ∈ H.take m, ob.lt m = true) : HR { g with ρ := g.ρ.take m } (H.take m) w := by
  have al : g.alike m { g with ρ := g.ρ.take m } := ⟨fun _ _ _ h => h, fun o p ho hp => by
    show (g.ρ.take m)[o]? = some p
    rw [List.getElem?_take_of_lt ho]; exact hp⟩
  have low : ∀ {α : Type} (l : List α) (o : Nat) (x : α), (l.take m)[o]? = some x → o < m ∧ l[o]? = some x := by
    intro α l o x hx
    rw [List.getElem?_take] at hx
    split at hx
    · rename_i hlt; exact ⟨hlt, hx⟩
    · cases hx
  refine ⟨h.agree, by simp [h.len], ?_, ?_⟩
  · intro o p ob h1 h2
    obtain ⟨ho, h1'⟩ := low _ o p h1
    have hob := hl ob (List.mem_of_getElem? h2)
    obtain ⟨_, h2'⟩ := low _ o ob h2
    have := h.obj o p ob h1' h2'
    cases ob with
    | cells v => obtain ⟨cs, ty, q1, ⟨j, q2, q3⟩, q4⟩ := this; exact ⟨cs, ty, q1, ⟨j, q2, q3.alike al (by simpa only [AObj.lt] using hob)⟩, q4⟩
    | buf e vs =>
      rcases this with x | ⟨q0, cs, ty, q1, ⟨c, j, q2, q3⟩, q4⟩
      · exact .inl x
      · exact .inr ⟨q0, cs, ty, q1, ⟨c, j, q2, q3.alike al (by simpa only [AObj.lt] using hob)⟩, q4⟩
    | tail => exact this
    | map es => obtain ⟨en, c, q1, q2, q3⟩ := this; exact ⟨en, c, q1, q2.alike al (by simpa only [AObj.lt] using hob), q3⟩
    | dead => trivial
  · intro a a' q q' ob1 ob2 h1 h1' h2 h2' l1 l2 e
    exact h.inj a a' q q' ob1 ob2 (low _ _ _ h1).2 (low _ _ _ h1').2 (low _ _ _ h2).2 (low _ _ _ h2').2 l1 l2 e

theorem Ev.take {B : Base} {g : Gh} {H : List AObj} {w : World} {m : Nat} (h : Ev B.g B.H B.w g H w) (hm : B.g.ρ.length ≤ m) : Ev B.g B.H B.w { g with ρ := g.ρ.take m } (H.take m) w where
  le := ⟨h.le.imm, fun o p hp => by
    show (g.ρ.take m)[o]? = some p
    rw [List.getElem?_take_of_lt (by have := (List.getElem?_eq_some_iff.1 hp).1; omega)]
    exact h.le.pre o p hp⟩
  os := h.os
  tape := h.tape
  output := h.output
  size := h.size
  drawn := h.drawn
  keep := h.keep
  imm := h.imm
  live b hb := by
    obtain ⟨o, p, ob, h1, h2, h3⟩ := hb
    have h1' : g.ρ[o]? = some p := by
      have h1 : (g.ρ.take m)[o]? = some p := h1
      rw [List.getElem?_take] at h1
      split at h1
      · exact h1
      · cases h1
    have h2' : H[o]? = some ob := by
      rw [List.getElem?_take] at h2
      split at h2
      · exact h2
      · cases h2
    exact h.live b ⟨o, p, ob, h1', h2', h3⟩

def envLt (m : Nat) : List (Nat × V) → Bool
  | [] => true
  | p :: r => p.2.lt m && envLt m r

theorem envLt.look {m : Nat} : ∀ {e : List (Nat × V)}, envLt m e = true → ∀ t, (look e t).lt m = true
  | [], _, _ => rfl
  | (t', v) :: e, h, t => by
    simp only [envLt, Bool.and_eq_true] at h
    rw [look_cons]
    split
    · exact h.1
    · exact envLt.look (e := e) h.2 t

def objsLt (m : Nat) : List AObj → Bool
  | [] => true
  | ob :: r => ob.lt m && objsLt m r

theorem objsLt.mem {m : Nat} : ∀ {l : List AObj}, objsLt m l = true → ∀ ob ∈ l, ob.lt m = true
  | [], _, _, h => by cases h
  | x :: l, h, ob, hm => by
    simp only [objsLt, Bool.and_eq_true] at h
    rcases List.mem_cons.1 hm with rfl | hm
    · exact h.1
    · exact objsLt.mem h.2 ob hm

/-- Objects that nothing names any more are left out. -/
theorem Wk.trunc {n m : Nat} {env : List (Nat × V)} {H : List AObj} (k : Nat) (hk : m ≤ k) (he : envLt k env = true) (hH : objsLt k (H.take k) = true) : Wk n m ⟨env, H⟩ ⟨env, H.take k⟩ := by
  intro B g a w b1 b2 h1 h2 h3
  have al : g.alike k { g with ρ := g.ρ.take k } := ⟨fun _ _ _ h => h, fun o p ho hp => by
    show (g.ρ.take k)[o]? = some p
    rw [List.getElem?_take_of_lt ho]; exact hp⟩
  exact ⟨_, ⟨fun t => (h1.env t).alike al (envLt.look he t), h1.size, h1.defers⟩, h2.take k (objsLt.mem hH), h3.take (by omega)⟩

/-- A loop: states told by a parameter, and a number that falls. -/
theorem AWp.loopS {P : Program} {n m : Nat} {Q : AEx → St → Prop} {s : St} {c : Code} {ι : Type} (S : ι → St) (μ : ι → Nat) (i₀ : ι) (h0 : Wk n m s (S i₀))
    (round : ∀ i, AWp P n m c (thenQ (fun s' => ∃ j, μ j < μ i ∧ Wk n m s' (S j)) Q) (S i)) : AWp P n m (.loop c) Q s :=
  .loop (fun i s => Wk n m s (S i)) μ i₀ h0 fun i _ hw => .wk hw (round i)

/-- Where several ways meet again. -/
theorem AWp.cut {P : Program} {n m : Nat} {Q : AEx → St → Prop} {s : St} {x y : Code} {ι : Type} (S : ι → St) (h : AWp P n m x (thenQ (fun s' => ∃ i, Wk n m s' (S i)) Q) s) (k : ∀ i, AWp P n m y Q (S i)) : AWp P n m (.seq x y) Q s :=
  .seq (h.mono fun e s' hq => by
    cases e with
    | normal => obtain ⟨i, hi⟩ := hq; exact .wk hi (k i)
    | _ => exact hq)

theorem thenQ_n {next : St → Prop} {Q : AEx → St → Prop} {s : St} (h : next s) : thenQ next Q .normal s := h
theorem thenQ_x {next : St → Prop} {Q : AEx → St → Prop} {s : St} {i : Nat} (h : Q (.exit i) s) : thenQ next Q (.exit i) s := h
theorem thenQ_r {next : St → Prop} {Q : AEx → St → Prop} {s : St} (h : Q .ret s) : thenQ next Q .ret s := h
theorem thenQ_p {next : St → Prop} {Q : AEx → St → Prop} {s : St} {v : V} (h : Q (.panic v) s) : thenQ next Q (.panic v) s := h
theorem blockQ_n {id : Nat} {Q : AEx → St → Prop} {s : St} (h : Q .normal s) : blockQ id Q .normal s := h
theorem blockQ_x {id : Nat} {Q : AEx → St → Prop} {s : St} (h : Q .normal s) : blockQ id Q (.exit id) s := by simp only [blockQ, if_true]; exact h
theorem blockQ_o {id i : Nat} {Q : AEx → St → Prop} {s : St} (hne : (Nat.beq i id) = false) (h : Q (.exit i) s) : blockQ id Q (.exit i) s := by
  simp only [blockQ]
  rw [if_neg (fun e => by subst e; simp at hne)]
  exact h
theorem blockQ_r {id : Nat} {Q : AEx → St → Prop} {s : St} (h : Q .ret s) : blockQ id Q .ret s := h
theorem blockQ_p {id : Nat} {Q : AEx → St → Prop} {s : St} {v : V} (h : Q (.panic v) s) : blockQ id Q (.panic v) s := h

/-! A function's body. -/

def argEnv : Nat → List V → List (Nat × V)
  | _, [] => []
  | i, v :: vs => (i, v) :: argEnv (i + 1) vs

theorem argEnv_look : ∀ (vs : List V) (xs : List Value) (i : Nat) (g : Gh), RVs g vs xs → ∀ t, RV g (look (argEnv i vs) t) (if t < i then Go.undef else xs.getD (t - i) Go.undef)
  | [], _, _, _, _, _ => trivial
  | v :: vs, xs, i, g, h, t => by
    obtain ⟨x, r, rfl, h2, h3⟩ := h
    simp only [argEnv, look_cons]
    split
    · rename_i e; subst e; simpa using h2
    · rename_i e
      have := argEnv_look vs r (i + 1) g h3 t
      by_cases hl : t < i
      · rw [if_pos hl]; rw [if_pos (by omega)] at this; exact this
      · rw [if_neg hl]; rw [if_neg (by omega)] at this
        rw [show t - i = (t - (i + 1)) + 1 from by omega, List.getD_cons_succ]
        exact this

theorem RVs.len {g : Gh} : ∀ {vs : List V} {xs : List Value}, RVs g vs xs → xs.length = vs.length
  | [], _, h => by simp only [RVs] at h; subst h; rfl
  | _ :: _, _, h => by obtain ⟨x, r, rfl, _, h3⟩ := h; simp [h3.len]

/-- What a function hands out, once it is through. -/
def ResOK (P : Program) (fn : Func) (n : Nat) (s : St) (v : V) : Prop :=
  ∀ g a w, RAct g n s.env a → HR g s.H w → ∃ x, (results fn a.tmps).run P w = .ok x w ∧ RV g v x

/-- The end of a function's body. -/
def endQ (P : Program) (fn : Func) (n m : Nat) (R : Out → List AObj → Prop) : AEx → St → Prop
  | .normal, s | .ret, s => ∃ v, ResOK P fn n s v ∧ v.lt m = true ∧ objsLt m (s.H.take m) = true ∧ R (.ret v) (s.H.take m)
  | .panic v, s => v.lt m = true ∧ objsLt m (s.H.take m) = true ∧ R (.pan v) (s.H.take m)
  | _, _ => False

theorem CallSpec.of_body {P : Program} {f : FuncId} {fn : Func} {c : Code} {args : List V} {H : List AObj} {R : Out → List AObj → Prop} (n m : Nat)
    (hf : P.funcs[f]? = some fn) (hb : fn.body = some c) (hnn : fn.ntmps = n) (hmm : H.length = m) (hn : args.length ≤ n)
    (h : AWp P n m c (endQ P fn n m R) ⟨argEnv 0 args, H⟩) : CallSpec P f args H R := by
  subst hnn hmm
  intro g w xs hx hr
  have hxl := hx.len
  refine calls_of_wp hf hb ?_
  have ha : RAct g fn.ntmps (argEnv 0 args) { tmps := xs.toArray ++ Array.replicate (fn.ntmps - xs.toArray.size) Go.undef, defers := [] } := by
    refine ⟨fun t => ?_, by simp; omega, rfl⟩
    have := argEnv_look args xs 0 g hx t
    simp only [Nat.not_lt_zero, if_false, Nat.sub_zero] at this
    have e : (xs.toArray ++ Array.replicate (fn.ntmps - xs.toArray.size) Go.undef).getD t Go.undef = xs.getD t Go.undef := by
      rw [Array.getD_eq_getD_getElem?, List.getD_eq_getElem?_getD]
      by_cases hl : t < xs.length
      · rw [Array.getElem?_append_left (by simpa using hl)]; simp
      · rw [Array.getElem?_append_right (by simpa using Nat.le_of_not_lt hl), List.getElem?_eq_none (by omega), Array.getElem?_replicate]
        split <;> rfl
    show RV g _ ((xs.toArray ++ Array.replicate (fn.ntmps - xs.toArray.size) Go.undef).getD t Go.undef)
    rw [e]; exact this
  refine wp_mono (h ⟨g, H, w⟩ g _ w rfl (by simpa using hr.len) ha hr (.refl _ _ _)) ?_
  rintro e a' w' ⟨g', s', ae, hq, hx', r1, r2, r3⟩
  have al : ∀ k, g'.alike k { g' with ρ := g'.ρ.take k } := fun k => ⟨fun _ _ _ h => h, fun o p ho hp => by
    show (g'.ρ.take k)[o]? = some p
    rw [List.getElem?_take_of_lt ho]; exact hp⟩
  have done : ∀ v, (∃ x, (results fn a'.tmps).run P w' = .ok x w' ∧ RV g' v x) → v.lt H.length = true → objsLt H.length (s'.H.take H.length) = true → R (.ret v) (s'.H.take H.length) →
      a'.defers = [] ∧ ∃ x, (results fn a'.tmps).run P w' = .ok x w' ∧ ∃ g'' H' o, R o H' ∧ OutRel g'' (.returned x) o ∧ HR g'' H' w' ∧ Ev g H w g'' H' w' := by
    rintro v ⟨x, hx, hv⟩ hl ho hR
    exact ⟨r1.defers, x, hx, _, _, _, hR, hv.alike (al H.length) hl, r2.take _ (objsLt.mem ho), Ev.take (B := ⟨g, H, w⟩) r3 (by show g.ρ.length ≤ _; rw [hr.len]; exact Nat.le_refl _)⟩
  cases e <;> cases ae <;> simp only [ExRel] at hx' <;> try exact hx'.elim
  · obtain ⟨v, h1, h2, h3, h4⟩ := hq
    exact done v (h1 g' a' w' r1 r2) h2 h3 h4
  · exact hq.elim
  · exact hq.elim
  · obtain ⟨v, h1, h2, h3, h4⟩ := hq
    exact done v (h1 g' a' w' r1 r2) h2 h3 h4
  · obtain ⟨h2, h3, h4⟩ := hq
    obtain ⟨x, hx1, hx2⟩ := hx'
    exact ⟨r1.defers, _, _, _, h4, ⟨x, hx1, hx2.alike (al H.length) h2⟩, r2.take _ (objsLt.mem h3), Ev.take (B := ⟨g, H, w⟩) r3 (by show g.ρ.length ≤ _; rw [hr.len]; exact Nat.le_refl _)⟩

/-- Calls that the row of a law wants. -/
theorem CallSpec.calls {P : Program} {f : FuncId} {args : List V} {v : V} (h : CallSpec P f args [] fun o _ => o = .ret v) {g : Gh} {w : World} {xs : List Value} (hρ : g.ρ = []) (hx : RVs g args xs)
    (ha : ∀ b i x, g.I b i = some x → w.cell? ⟨b, i, none⟩ = some x) :
    Calls P f xs.toArray w fun e w' => ∃ x g', e = .returned x ∧ RV g' v x ∧ RowKit.Below w.heap.size w w' := by
  refine (h g w xs hx ⟨ha, by simp [hρ], fun o p ob h => by simp [hρ] at h, fun o o' p p' ob ob' h => by simp [hρ] at h⟩).mono ?_
  rintro e w' ⟨g', H', o, rfl, ho, hr', hev⟩
  cases e <;> simp only [OutRel] at ho
  refine ⟨_, g', rfl, ho, ⟨hev.os, hev.tape, hev.output, hev.size, fun k hk => hev.keep k hk ?_⟩⟩
  rintro ⟨o, p, ob, h, _⟩
  simp [hρ] at h

end Go.Av
