/- What was a variable, or a buffer, and is no longer written; pieces of slices; the end of a function. -/
import Derived.Test.YtdbiobndihpccabAvCore20
namespace Go.Av
set_option linter.unusedSimpArgs false
set_option linter.unusedVariables false
set_option linter.unusedSectionVars false

/-- The cells of what was an object. -/
def FzI (g : Gh) (p : Place) : AObj → Prop
  | .cells v => ∃ c, RC g v c ∧ g.holds ⟨p.block, 0, none⟩ c
  | .buf e vs => (p.vac = true ∧ vs = []) ∨ (p.vac = false ∧ ∃ c, RCu g e vs c ∧ g.holds ⟨p.block, 0, none⟩ c)
  | _ => False

def AObj.fz : AObj → Bool
  | .cells _ => true
  | .buf _ _ => true
  | _ => false

structure FzR (o : Nat) (ob : AObj) (v v' : V) : Prop where
  agg : v.isAgg = v'.isAgg
  fl : flen v = flen v'
  rc : ∀ (g : Gh) (p : Place), g.ρ[o]? = some p → FzI g p ob → ∀ cs, RC g v cs → RC g v' cs

theorem FzR.of {o : Nat} {ob : AObj} {v v' : V} (h : RSub v v') : FzR o ob v v' := ⟨h.agg, h.fl, fun g p _ _ cs k => h.rc g cs k⟩
theorem FzR.refl {o : Nat} {ob : AObj} (v : V) : FzR o ob v v := .of (.refl v)
theorem holds_mid {g : Gh} {b : Nat} {pre c post : List Value} {off : Nat} (h : g.holds ⟨b, 0, none⟩ (pre ++ c ++ post)) (ho : off = pre.length) : g.holds ⟨b, off, none⟩ c := by
  intro i x hx
  have := h (pre.length + i) x (by rw [List.append_assoc, List.getElem?_append_right (by omega), show pre.length + i - pre.length = i from by omega, List.getElem?_append_left (List.getElem?_eq_some_iff.1 hx).1]; exact hx)
  subst ho
  simpa using this
theorem FzR.ptr {o off off' : Nat} {path : List Nat} {v u : V} (h : AtP v path off' u) (ho : off = off') : FzR o (.cells v) (.ptr o path off) (.cptr u) := by
  refine ⟨rfl, rfl, fun g p hp hI cs hc => ?_⟩
  simp only [RC] at hc ⊢
  obtain ⟨q, hq, rfl⟩ := hc
  rw [hp] at hq; cases hq
  obtain ⟨c, h1, h2⟩ := hI
  obtain ⟨pre, d, post, e1, e2, e3, _⟩ := h1.at (acc := 0) h.spec.1
  refine ⟨_, d, rfl, rfl, e3, holds_mid (e1 ▸ h2) ?_⟩
  have := h.spec.2 0
  omega
theorem FzR.ptrB {o off off' e j : Nat} {path : List Nat} {vs : List V} {u : V} (h : AtP (.arr e vs) (j :: path) off' u) (ho : off = off') : FzR o (.buf e vs) (.ptr o (j :: path) off) (.cptr u) := by
  refine ⟨rfl, rfl, fun g p hp hI cs hc => ?_⟩
  simp only [RC] at hc ⊢
  obtain ⟨q, hq, rfl⟩ := hc
  rw [hp] at hq; cases hq
  rcases hI with ⟨_, rfl⟩ | ⟨_, c, h1, h2⟩
  · cases h with
    | ar hk _ => simp at hk
  have h1' : RC g (.arr e vs) c := by simp only [RC]; exact h1
  obtain ⟨pre, d, post, e1, e2, e3, _⟩ := h1'.at (acc := 0) h.spec.1
  refine ⟨_, d, rfl, rfl, e3, holds_mid (e1 ▸ h2) ?_⟩
  have := h.spec.2 0
  omega
theorem FzR.slo {o e len q : Nat} {vs : List V} (hl : len = vs.length) : FzR o (.buf e vs) (.slo e o [] 0 0 len q) (.sl e .no vs) := by
  subst hl
  refine ⟨rfl, rfl, fun g p hp hI cs hc => ?_⟩
  simp only [RC] at hc ⊢
  obtain ⟨p', hp', a, cc, rfl, hle, hcase⟩ := hc
  rw [hp] at hp'; cases hp'
  rcases hI with ⟨hv, rfl⟩ | ⟨hv, c, h1, h2⟩
  · refine ⟨a, cc, rfl, hle, trivial, [], by simp [RCu], ?_, fun ad _ => ⟨fun h => absurd rfl h, fun i x hx => by simp at hx⟩⟩
    intro ha
    rcases hcase with ⟨_, h⟩ | ⟨h, _⟩
    · exact h
    · rw [ha] at h; cases h
  · obtain ⟨rfl, _⟩ := hcase.resolve_left (fun hc => by rw [hv] at hc; cases hc.1)
    refine ⟨_, cc, rfl, hle, trivial, c, h1, (fun h => by cases h), fun ad h => ?_⟩
    cases h
    exact ⟨fun _ => rfl, by simpa using h2⟩
theorem FzR.sloC {o e len q off off' : Nat} {path : List Nat} {v : V} {vs : List V} (h : AtP v path off' (.arr e vs)) (ho : off = off') (hl : len = vs.length) : FzR o (.cells v) (.slo e o path off 0 len q) (.sl e .no vs) := by
  subst hl
  refine ⟨rfl, rfl, fun g p hp hI cs hc => ?_⟩
  simp only [RC] at hc ⊢
  obtain ⟨p', hp', a, cc, rfl, hle, hcase⟩ := hc
  rw [hp] at hp'; cases hp'
  obtain ⟨c, h1, h2⟩ := hI
  obtain ⟨pre, d, post, e1, e2, e3, _⟩ := h1.at (acc := 0) h.spec.1
  simp only [RC] at e3
  rcases hcase with ⟨_, rfl⟩ | ⟨rfl, _⟩
  · have hvs : vs = [] := List.eq_nil_of_length_eq_zero (by omega)
    subst hvs
    exact ⟨a, 0, rfl, hle, trivial, [], by simp [RCu], fun _ => rfl, fun ad _ => ⟨fun h => absurd rfl h, fun i x hx => by simp at hx⟩⟩
  · refine ⟨_, cc, rfl, hle, trivial, d, e3, (fun h => by cases h), fun ad h' => ?_⟩
    cases h'
    refine ⟨fun _ => rfl, holds_mid (e1 ▸ h2) ?_⟩
    have := h.spec.2 0
    omega

inductive FzL (o : Nat) (ob : AObj) : List V → List V → Prop where
  | nil : FzL o ob [] []
  | cons {v v' : V} {vs vs' : List V} (h : FzR o ob v v') (t : FzL o ob vs vs') : FzL o ob (v :: vs) (v' :: vs')
theorem FzL.refl {o : Nat} {ob : AObj} : ∀ (l : List V), FzL o ob l l
  | [] => .nil
  | v :: l => .cons (.refl v) (FzL.refl l)
theorem FzL.fl {o : Nat} {ob : AObj} {vs vs' : List V} (h : FzL o ob vs vs') : flenL vs = flenL vs' ∧ vs.length = vs'.length := by
  induction h with
  | nil => exact ⟨rfl, rfl⟩
  | cons h _ ih => exact ⟨by simp [flenL, h.fl, ih.1], by simp [ih.2]⟩
theorem FzL.rcs {o : Nat} {ob : AObj} {vs vs' : List V} (h : FzL o ob vs vs') {g : Gh} {p : Place} (hp : g.ρ[o]? = some p) (hI : FzI g p ob) : ∀ {cs : List Value}, RCs g vs cs → RCs g vs' cs := by
  induction h with
  | nil => exact fun h => h
  | cons h _ ih =>
    intro cs hc
    simp only [RCs] at hc ⊢
    obtain ⟨a, b, h1, h2, h3⟩ := hc
    exact ⟨a, b, h1, h.rc g p hp hI _ h2, ih h3⟩
theorem FzL.rcu {o e : Nat} {ob : AObj} {vs vs' : List V} (h : FzL o ob vs vs') {g : Gh} {p : Place} (hp : g.ρ[o]? = some p) (hI : FzI g p ob) : ∀ {cs : List Value}, RCu g e vs cs → RCu g e vs' cs := by
  induction h with
  | nil => exact fun h => h
  | cons h _ ih =>
    intro cs hc
    simp only [RCu] at hc ⊢
    obtain ⟨a, b, h1, h0, h2, h3⟩ := hc
    exact ⟨a, b, h1, h0, h.rc g p hp hI _ h2, ih h3⟩
theorem FzL.rvl {o : Nat} {ob : AObj} {vs vs' : List V} (h : FzL o ob vs vs') {g : Gh} {p : Place} (hp : g.ρ[o]? = some p) (hI : FzI g p ob) : ∀ {xs : List Value}, RVl g vs xs → RVl g vs' xs := by
  induction h with
  | nil => exact fun h => h
  | cons h _ ih =>
    intro cs hc
    simp only [RVl] at hc ⊢
    obtain ⟨x, r, h1, h0, h2, h3⟩ := hc
    exact ⟨x, r, h1, h.agg ▸ h0, h.rc g p hp hI _ h2, ih h3⟩
theorem FzR.st {o : Nat} {ob : AObj} {vs vs' : List V} (h : FzL o ob vs vs') : FzR o ob (.st vs) (.st vs') := ⟨rfl, by simp [flen, h.fl.1], fun g p hp hI cs hc => by simp only [RC] at hc ⊢; exact h.rcs hp hI hc⟩
theorem FzR.arr {o e : Nat} {ob : AObj} {vs vs' : List V} (h : FzL o ob vs vs') : FzR o ob (.arr e vs) (.arr e vs') := ⟨rfl, by simp [flen, h.fl.2], fun g p hp hI cs hc => by simp only [RC] at hc ⊢; exact h.rcu hp hI hc⟩
theorem FzR.fn {o : Nat} {ob : AObj} {f : FuncId} {a b a' b' : List V} (h : FzL o ob a a') (k : FzL o ob b b') : FzR o ob (.fn f a b) (.fn f a' b') := ⟨rfl, rfl, fun g p hp hI cs hc => by
  simp only [RC] at hc ⊢
  obtain ⟨x, y, h1, h2, h3⟩ := hc
  exact ⟨x, y, h1, h.rvl hp hI h2, k.rvl hp hI h3⟩⟩
theorem FzR.sl {o e : Nat} {ob : AObj} {tk : Tk} {vs vs' : List V} (h : FzL o ob vs vs') : FzR o ob (.sl e tk vs) (.sl e tk vs') := ⟨rfl, rfl, fun g p hp hI cs hc => by
  simp only [RC] at hc ⊢
  obtain ⟨a, cap, h1, h3, h4, c, h5, h6, h7⟩ := hc
  have hl := h.fl.2
  refine ⟨a, cap, by rw [← hl]; exact h1, by rw [← hl]; exact h3, by rw [← hl]; exact h4, c, h.rcu hp hI h5, h6, fun ad e => ⟨fun hn => (h7 ad e).1 fun hv => hn (by subst hv; cases h; rfl), (h7 ad e).2⟩⟩⟩

/-- The environment, once an object no longer turns. -/
inductive EnvF (o : Nat) (ob : AObj) (env : List (Nat × V)) : List (Nat × V) → Prop where
  | nil : EnvF o ob env []
  | same {t : Nat} {v : V} {r : List (Nat × V)} (h : look env t = v) (k : EnvF o ob env r) : EnvF o ob env ((t, v) :: r)
  | cons {t : Nat} {v v' : V} {r : List (Nat × V)} (h : look env t = v) (hk : okV v = true) (hs : FzR o ob v v') (k : EnvF o ob env r) : EnvF o ob env ((t, v') :: r)

theorem EnvF.look {o : Nat} {ob : AObj} {env env' : List (Nat × V)} (h : EnvF o ob env env') {g : Gh} {p : Place} (hp : g.ρ[o]? = some p) (hI : FzI g p ob) (t : Nat) {x : Value} : RV g (Av.look env t) x → RV g (Av.look env' t) x := by
  induction h with
  | nil => exact fun _ => trivial
  | same h _ ih =>
    rw [look_cons]
    split
    · rename_i e; subst e; rw [h]; exact id
    · exact ih
  | cons h hk hs _ ih =>
    rw [look_cons]
    split
    · rename_i e; subst e; rw [h]
      intro hx
      have := hx.ok hk
      exact .of (hs.agg.symm.trans this.1) (hs.rc g p hp hI _ this.2)
    · exact ih

def AFz (o : Nat) (ob : AObj) : AObj → AObj → Prop
  | .cells v, .cells v' => FzR o ob v v'
  | x, y => x = y
theorem AFz.refl {o : Nat} {ob : AObj} (x : AObj) : AFz o ob x x := by cases x <;> first | exact FzR.refl _ | rfl
inductive ObF (o : Nat) (ob : AObj) : List AObj → List AObj → Prop where
  | nil : ObF o ob [] []
  | cons {x y : AObj} {l l' : List AObj} (h : AFz o ob x y) (t : ObF o ob l l') : ObF o ob (x :: l) (y :: l')
theorem ObF.refl {o : Nat} {ob : AObj} : ∀ (l : List AObj), ObF o ob l l
  | [] => .nil
  | x :: l => .cons (.refl x) (ObF.refl l)
theorem ObF.get {o : Nat} {ob : AObj} {l l' : List AObj} (h : ObF o ob l l') : l.length = l'.length ∧ ∀ (k : Nat) y, l'[k]? = some y → ∃ x, l[k]? = some x ∧ AFz o ob x y := by
  induction h with
  | nil => exact ⟨rfl, fun k y h => by simp at h⟩
  | cons h _ ih =>
    refine ⟨by simp [ih.1], fun k y hk => ?_⟩
    cases k with
    | zero => simp at hk; subst hk; exact ⟨_, rfl, h⟩
    | succ k => simpa using ih.2 k y (by simpa using hk)
theorem AFz.rel {o : Nat} {ob x y : AObj} (h : AFz o ob x y) {g : Gh} {p q : Place} (hp : g.ρ[o]? = some p) (hI : FzI g p ob) {w : World} (k : ORel g w q x) : ORel g w q y := by
  cases x with
  | cells v =>
    cases y with
    | cells v' =>
      obtain ⟨cs, ty, h1, ⟨j, h2, h3⟩, h4⟩ := k
      have hf : flen v = flen v' := FzR.fl h
      exact ⟨cs, ty, h1, ⟨j, hf ▸ h2, hf ▸ FzR.rc h g p hp hI _ h3⟩, h4⟩
    | _ => cases h
  | _ => cases h; exact k
theorem AFz.own {o : Nat} {ob x y : AObj} (h : AFz o ob x y) (q : Place) : q.own y = q.own x := by
  cases x with
  | cells v => cases y with
    | cells v' => rfl
    | _ => cases h
  | _ => cases h; rfl

theorem HR.freeze {g : Gh} {H : List AObj} {w : World} (hr : HR g H w) {o : Nat} {p : Place} {ob : AObj} (hp : g.ρ[o]? = some p) (ho : H[o]? = some ob) (hf : ob.fz = true) :
    ∃ g' : Gh, g.le g' ∧ g'.ρ = g.ρ ∧ FzI g' p ob ∧ HR g' (H.set o .dead) w ∧ (∀ b i, b < w.heap.size → ¬ Lv g H b → g'.I b i = g.I b i) := by
  have main : ∀ (c junk : List Value) (cs : Array Value) (cty : TypeId), w.heap[p.block]? = some (.cells cs cty (0, 0)) → cs.toList = c ++ junk → (∀ i, g.I p.block i = none) → p.own ob = true →
      g.le (g.put p.block 0 c) ∧ HR (g.put p.block 0 c) (H.set o .dead) w ∧ (∀ b i, b < w.heap.size → ¬ Lv g H b → (g.put p.block 0 c).I b i = g.I b i) := by
    intro c junk cs cty h1 h2 h3 hl
    have le : g.le (g.put p.block 0 c) := Gh.put_le fun i _ => h3 i
    refine ⟨le, ⟨?_, by simp [Gh.put, hr.len], ?_, ?_⟩, ?_⟩
    · intro b i x hx
      simp only [Gh.put] at hx
      split at hx
      · rename_i hc
        obtain ⟨rfl, _, hi⟩ := hc
        simp only [World.cell?, h1]
        have : cs.toList[i]? = some x := by rw [h2, List.getElem?_append_left (by omega)]; simpa using hx
        simpa using this
      · exact hr.agree b i x hx
    · intro a q ob1 k1 k2
      by_cases ea : a = o
      · subst ea
        rw [List.getElem?_set_self (List.getElem?_eq_some_iff.1 ho).1] at k2
        cases k2; trivial
      · rw [List.getElem?_set_ne (Ne.symm ea)] at k2
        cases hlive : q.own ob1 with
        | false => exact (hr.obj a q ob1 k1 k2).free hlive
        | true =>
          have hb : q.block ≠ p.block := fun eb => ea (hr.inj a o q p ob1 ob k1 hp k2 ho hlive hl eb)
          refine (hr.obj a q ob1 k1 k2).keep le rfl (fun i => ?_)
          simp only [Gh.put]
          rw [if_neg (fun hc => hb hc.1)]
    · exact (hr.kill o).inj
    · intro b i _ hn
      simp only [Gh.put]
      rw [if_neg]
      rintro ⟨rfl, _⟩
      exact hn ⟨o, p, ob, hp, ho, hl, rfl⟩
  cases ob with
  | cells v =>
    obtain ⟨cs, ty, h1, ⟨junk, h2, h3⟩, h4⟩ := hr.obj o p _ hp ho
    obtain ⟨q1, q2, q3⟩ := main _ junk cs ty h1 h2 h4 rfl
    exact ⟨_, q1, rfl, ⟨_, h3.mono q1, Gh.put_holds⟩, q2, q3⟩
  | buf e vs =>
    rcases hr.obj o p _ hp ho with ⟨hv, rfl⟩ | ⟨hv, cs, ty, h1, ⟨c, junk, h2, h3⟩, _, h4⟩
    · exact ⟨g, .refl g, rfl, .inl ⟨hv, rfl⟩, hr.kill o, fun _ _ _ _ => rfl⟩
    · obtain ⟨q1, q2, q3⟩ := main c junk cs ty h1 h2 h4 (by simp [Place.own, hv])
      exact ⟨_, q1, rfl, .inr ⟨hv, c, h3.mono q1, Gh.put_holds⟩, q2, q3⟩
  | tail => cases hf
  | map es => cases hf
  | dead => cases hf

theorem Wk.freeze {n m : Nat} {env env' : List (Nat × V)} {H H' : List AObj} (o : Nat) {ob : AObj} (ho : H[o]? = some ob) (hf : ob.fz = true) (he : EnvF o ob env env') (hH : ObF o ob (H.set o .dead) H') : Wk n m ⟨env, H⟩ ⟨env', H'⟩ := by
  intro B g a w b1 b2 h1 h2 h3
  have hol : o < g.ρ.length := by rw [h2.len]; exact (List.getElem?_eq_some_iff.1 ho).1
  have hp := List.getElem?_eq_getElem hol
  obtain ⟨g', le, hρ, hI, hr, himm⟩ := h2.freeze hp ho hf
  have hp' : g'.ρ[o]? = some g.ρ[o] := by rw [hρ]; exact hp
  obtain ⟨hlen, hget⟩ := hH.get
  refine ⟨g', ⟨fun t => he.look hp' hI t ((h1.env t).mono le), h1.size, h1.defers⟩, ⟨hr.agree, by rw [hr.len, hlen], ?_, ?_⟩, ?_⟩
  · intro k q y hq hy
    obtain ⟨x, hx, hxy⟩ := hget k y hy
    exact hxy.rel hp' hI (hr.obj k q x hq hx)
  · intro k k' q q' y y' hq hq' hy hy' l1 l2 e
    obtain ⟨x, hx, hxy⟩ := hget k y hy
    obtain ⟨x', hx', hxy'⟩ := hget k' y' hy'
    exact hr.inj k k' q q' x x' hq hq' hx hx' (by rw [← hxy.own]; exact l1) (by rw [← hxy'.own]; exact l2) e
  · have ev : Ev g H w g' H' w := by
      refine ⟨le, rfl, rfl, rfl, Nat.le_refl _, Nat.le_refl _, fun _ _ _ => rfl, himm, ?_⟩
      rintro b ⟨k, q, y, hq, hy, l1, e⟩
      obtain ⟨x, hx, hxy⟩ := hget k y hy
      rw [hxy.own] at l1
      by_cases ek : k = o
      · subst ek
        rw [List.getElem?_set_self (by rw [← h2.len]; exact hol)] at hx
        cases hx
        simp [Place.own] at l1
      · rw [List.getElem?_set_ne (Ne.symm ek)] at hx
        exact .inl ⟨k, q, x, by rw [← hρ]; exact hq, hx, l1, e⟩
    exact h3.trans ev

/-! The end of a function that is handed objects, or hands some out. -/

def endF (P : Program) (fn : Func) (n m : Nat) (R : Out → List AObj → Prop) : AEx → St → Prop
  | .normal, s | .ret, s => ∃ s' v, Wk n m s s' ∧ ResOK P fn n s' v ∧ R (.ret v) s'.H
  | .panic v, s => R (.pan v) s.H
  | _, _ => False

theorem CallSpec.of_bodyF {P : Program} {f : FuncId} {fn : Func} {c : Code} {args : List V} {H : List AObj} {R : Out → List AObj → Prop} (n m : Nat)
    (hf : P.funcs[f]? = some fn) (hb : fn.body = some c) (hnn : fn.ntmps = n) (hmm : H.length = m) (hn : args.length ≤ n)
    (h : AWp P n m c (endF P fn n m R) ⟨argEnv 0 args, H⟩) : CallSpec P f args H R := by
  subst hnn hmm
  intro g w xs hx hr
  have hxl := hx.len
  refine calls_of_wp hf hb ?_
  have ha : RAct g fn.ntmps (argEnv 0 args) { tmps := xs.toArray ++ Array.replicate (fn.ntmps - xs.toArray.size) Go.undef, defers := [] } := by
    refine ⟨fun t => ?_, by simp; omega, rfl⟩
    have := argEnv_look args xs 0 g hx t
    simp only [Nat.not_lt_zero, if_false, Nat.sub_zero] at this
    have e : (xs.toArray ++ Array.replicate (fn.ntmps - xs.toArray.size) Go.undef).getD t Go.undef = xs.getD t Go.undef := by
      rw [Array.getD_eq_getD_getElem?, List.getD_eq_getElem?_getD]
      by_cases hl : t < xs.length
      · rw [Array.getElem?_append_left (by simpa using hl)]; simp
      · rw [Array.getElem?_append_right (by simpa using Nat.le_of_not_lt hl), List.getElem?_eq_none (by omega), Array.getElem?_replicate]
        split <;> rfl
    show RV g _ ((xs.toArray ++ Array.replicate (fn.ntmps - xs.toArray.size) Go.undef).getD t Go.undef)
    rw [e]; exact this
  refine wp_mono (h ⟨g, H, w⟩ g _ w rfl (by simpa using hr.len) ha hr (.refl _ _ _)) ?_
  rintro e a' w' ⟨g', s', ae, hq, hx', r1, r2, r3⟩
  have done : (∃ s'' v, Wk fn.ntmps H.length s' s'' ∧ ResOK P fn fn.ntmps s'' v ∧ R (.ret v) s''.H) →
      a'.defers = [] ∧ ∃ x, (results fn a'.tmps).run P w' = .ok x w' ∧ ∃ g'' H' o, R o H' ∧ OutRel g'' (.returned x) o ∧ HR g'' H' w' ∧ Ev g H w g'' H' w' := by
    rintro ⟨s'', v, hw, hres, hR⟩
    obtain ⟨g2, q1, q2, q3⟩ := hw ⟨g, H, w⟩ g' a' w' rfl (by simpa using hr.len) r1 r2 r3
    obtain ⟨x, hx, hv⟩ := hres g2 a' w' q1 q2
    exact ⟨r1.defers, x, hx, g2, s''.H, _, hR, hv, q2, q3⟩
  cases e <;> cases ae <;> simp only [ExRel] at hx' <;> try exact hx'.elim
  · exact done hq
  · exact hq.elim
  · exact hq.elim
  · exact done hq
  · exact ⟨r1.defers, _, _, _, hq, hx', r2, r3⟩

theorem PureC.ofF {P : Program} {f : FuncId} {args : List V} {r : V} (h : CallSpec P f args [] fun o H' => o = .ret r ∧ H' = []) (ha : V.ltL 0 args = true) (hr : r.lt 0 = true) : PureC P f args r :=
  .of (h.mono fun _ _ x => x.1) ha hr

theorem endF1 {P : Program} {fn : Func} {n m : Nat} {s s' : St} {r : ResultVar} {v v' : V} {H' : List AObj} (hr : fn.results = #[r]) (hw : Wk n m s s') (h : ResV P s' r v) (he : v = v') (hH : s'.H = H') : endF P fn n m (fun o H'' => o = .ret v' ∧ H'' = H') .ret s :=
  ⟨s', v, hw, .one hr h, by rw [he], hH⟩
theorem endFN {P : Program} {fn : Func} {n m : Nat} {s s' : St} {rs : List ResultVar} {vs : List V} {v' : V} {H' : List AObj} (hr : fn.results.toList = rs) (hw : Wk n m s s') (h : ResL P s' rs vs) (h1 : (vs.length == 1) = false) (he : V.tup vs = v') (hH : s'.H = H') :
    endF P fn n m (fun o H'' => o = .ret v' ∧ H'' = H') .ret s :=
  ⟨s', .tup vs, hw, .many hr h (by simpa using h1), by rw [he], hH⟩
theorem endF_n {P : Program} {fn : Func} {n m : Nat} {R : Out → List AObj → Prop} {s : St} (h : endF P fn n m R .ret s) : endF P fn n m R .normal s := h
end Go.Av
