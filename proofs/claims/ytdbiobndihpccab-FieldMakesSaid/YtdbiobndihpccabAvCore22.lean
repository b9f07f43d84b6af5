/- Rules in the form in which a program writes them. -/
import Derived.Test.YtdbiobndihpccabAvCore21
namespace Go.Av
set_option linter.unusedSimpArgs false
set_option linter.unusedVariables false
set_option linter.unusedSectionVars false

theorem SelE.leaf {f : Nat → Nat} {m : Nat} {env r : List (Nat × V)} {t : Nat} {v0 v : V} (h : Av.look env t = v0) (hk : okV v0 = true) (hs : RSub v0 v) (hl : ∀ m, v.lt m = true) (k : SelE f m env r) : SelE f m env ((t, v) :: r) :=
  .cons (hl m) (by
    rw [h, V.ren_closed f (hl 0)]
    refine hs.sub ?_
    cases v0 <;> first | rfl | exact hk) k
theorem SelE.spec {f : Nat → Nat} {m : Nat} {env r : List (Nat × V)} {t : Nat} {v0 v1 v : V} (h : Av.look env t = v0) (hk : okV v0 = true) (hs : RSub v0 v1) (he : v.ren f = v1) (hl : v.lt m = true) (k : SelE f m env r) : SelE f m env ((t, v) :: r) :=
  .cons hl (by
    rw [h, he]
    refine hs.sub ?_
    cases v0 <;> first | rfl | exact hk) k
theorem RSub.leafr {v0 v : V} (f : Nat → Nat) (hs : RSub v0 v) (hl : ∀ m, v.lt m = true) : RSub v0 (v.ren f) := by rw [V.ren_closed f (hl 0)]; exact hs
theorem RSubL.leafr {α : Type} {F : α → V} {n : Nat} {b : Bool} (h : TyOk F n b) (f : Nat → Nat) {xs ys : List α} (he : xs = ys) : RSubL (xs.map F) (V.renL f (ys.map F)) := by
  rw [V.renL_closed f (h.ltm 0 ys), he]; exact .refl _
theorem RSub.slo {e o l l' q : Nat} (h : l = l') : RSub (.slo e o [] 0 0 l q) (.slo e o [] 0 0 l' q) := by subst h; exact .refl _
theorem RSubL.leafl {α : Type} {F : α → V} {xs ys : List α} (he : xs = ys) : RSubL (xs.map F) (ys.map F) := by
  rw [he]; exact .refl _
theorem vsub {v v' : V} (hk : okV v = true) (h : RSub v v') : v.sub v' := h.sub (by cases v <;> first | rfl | exact hk)
theorem lt_buf {α : Type} {F : α → V} {n : Nat} {b : Bool} (h : TyOk F n b) {m e : Nat} {xs : List α} : (AObj.buf e (xs.map F)).lt m = true := h.ltm m xs
theorem ren_buf {α : Type} {F : α → V} {n : Nat} {b : Bool} (h : TyOk F n b) (f : Nat → Nat) {e : Nat} {xs : List α} : (AObj.buf e (xs.map F)).ren f = .buf e (xs.map F) := by simp only [AObj.ren, V.renL_closed f (h.ltm 0 xs)]
theorem ren_cells {v v' : V} {f : Nat → Nat} (h : v.ren f = v') : (AObj.cells v).ren f = .cells v' := by simp only [AObj.ren, h]
theorem ren_st {vs vs' : List V} {f : Nat → Nat} (h : V.renL f vs = vs') : (V.st vs).ren f = .st vs' := by simp only [V.ren, h]
theorem renL_c {v v' : V} {vs vs' : List V} {f : Nat → Nat} (h : v.ren f = v') (t : V.renL f vs = vs') : V.renL f (v :: vs) = v' :: vs' := by simp only [V.renL, h, t]
theorem flL_nil : flenL [] = 0 := rfl
theorem flL_c {v : V} {vs : List V} {a b : Nat} (h : flen v = a) (t : flenL vs = b) : flenL (v :: vs) = a + b := by simp only [flenL, h, t]
theorem fl_st {vs : List V} {a : Nat} (h : flenL vs = a) : flen (.st vs) = a := by simpa only [flen] using h
theorem envLt_nil {m : Nat} : envLt m [] = true := rfl

def onS {α β γ : Type} (f : α → Option γ) (g : β → Option γ) : α ⊕ β → Option γ
  | .inl a => f a
  | .inr b => g b

theorem Ok.inrq {α β γ : Type} {f : α → Option γ} {g : β → Option γ} {q : α ⊕ β} {K : γ → Prop} (h : Ok (onS f g q) K) {b : β} (e : (.inr b : α ⊕ β) = q) : Ok (g b) K := by subst e; exact h

/-- A loop, round by round with its mirror. -/
theorem AWp.loopT {P : Program} {n m : Nat} {Q : AEx → St → Prop} {s : St} {c : Code} {σ ρ : Type} {body : σ → Option (σ ⊕ ρ)} {N : Nat} {s0 : σ} {q : ρ} (S : σ → St) (hq : loopM body N s0 = some q) (h0 : Wk n m s (S s0))
    (round : ∀ (N : Nat) (t : σ), Ok (body t) (loopK body N q) → AWp P n m c (thenQ (fun s' => ∃ t', loopM body N t' = some q ∧ Wk n m s' (S t')) Q) (S t)) : AWp P n m (.loop c) Q s := by
  refine .loopS (ι := {p : Nat × σ // loopM body p.1 p.2 = some q}) (fun p => S p.1.2) (fun p => p.1.1) ⟨(N, s0), hq⟩ h0 ?_
  rintro ⟨⟨k, t⟩, ht⟩
  obtain ⟨j, hj, hk⟩ := loopM.step ht
  refine (round j t hk).mono ?_
  intro e s' h
  cases e with
  | normal =>
    obtain ⟨t', h1, h2⟩ := h
    exact ⟨⟨(j, t'), h1⟩, hj, h2⟩
  | _ => exact h

/-- What holds at the end of a code does not hang on how the state is told. -/
def NC (n m : Nat) (Q : AEx → St → Prop) : Prop := ∀ s s', Wk n m s s' → Q .normal s' → Q .normal s
section
variable {P : Program} {n m : Nat} {Q : AEx → St → Prop} {s : St} {x : Code}
theorem nc_then {y : Code} : NC n m (thenQ (AWp P n m y Q) Q) := fun _ _ h k => AWp.wk h k
theorem nc_block {id : Nat} (h : NC n m Q) : NC n m (blockQ id Q) := fun s s' w k => h s s' w k
theorem nc_cut {X : Type} {q : X} {S : X → St} : NC n m (thenQ (fun s' => ∃ z, z = q ∧ Wk n m s' (S z)) Q) := fun _ _ h ⟨z, e, w⟩ => ⟨z, e, h.trans w⟩
theorem nc_cutL {X R : Type} {q : X ⊕ R} {S : X → St} : NC n m (thenQ (fun s' => ∃ z, (.inl z : X ⊕ R) = q ∧ Wk n m s' (S z)) Q) := fun _ _ h ⟨z, e, w⟩ => ⟨z, e, h.trans w⟩
theorem nc_loop {σ ρ : Type} {body : σ → Option (σ ⊕ ρ)} {N : Nat} {q : ρ} {S : σ → St} : NC n m (thenQ (fun s' => ∃ t', loopM body N t' = some q ∧ Wk n m s' (S t')) Q) := fun _ _ h ⟨z, e, w⟩ => ⟨z, e, h.trans w⟩
theorem nc_end {fn : Func} {R : Out → List AObj → Prop} : NC n m (endF P fn n m R) := fun _ _ h ⟨s2, v, h1, h2⟩ => ⟨s2, v, h.trans h1, h2⟩

/-- Where ways meet; some of them may have gone another way. -/
theorem AWp.cutL {X R γ : Type} {mm : Option (X ⊕ R)} {k1 : X → Option γ} {k2 : R → Option γ} {K : γ → Prop} (S : X → St) (hc : NC n m Q) (h : Ok (Option.bind mm (onS k1 k2)) K)
    (h1 : ∀ q, mm = some q → Ok (onS k1 k2 q) K → AWp P n m x (thenQ (fun s' => ∃ z, (.inl z : X ⊕ R) = q ∧ Wk n m s' (S z)) Q) s) (h2 : ∀ z, Ok (k1 z) K → Q .normal (S z)) : AWp P n m x Q s := by
  obtain ⟨q, hq, h⟩ := h.bnd
  refine (h1 q hq h).mono fun e s' hq => ?_
  cases e with
  | normal =>
    obtain ⟨z, rfl, hw⟩ := hq
    exact hc _ _ hw (h2 z h)
  | _ => exact hq
theorem AWp.cutX {X γ : Type} {mm : Option X} {k1 : X → Option γ} {K : γ → Prop} (S : X → St) (hc : NC n m Q) (h : Ok (Option.bind mm k1) K)
    (h1 : ∀ q, mm = some q → AWp P n m x (thenQ (fun s' => ∃ z, z = q ∧ Wk n m s' (S z)) Q) s) (h2 : ∀ z, Ok (k1 z) K → Q .normal (S z)) : AWp P n m x Q s := by
  obtain ⟨q, hq, h⟩ := h.bnd
  refine (h1 q hq).mono fun e s' hq => ?_
  cases e with
  | normal =>
    obtain ⟨z, rfl, hw⟩ := hq
    exact hc _ _ hw (h2 z h)
  | _ => exact hq
end

theorem endF_wk {P : Program} {fn : Func} {n m : Nat} {R : Out → List AObj → Prop} {s s' : St} (h : Wk n m s s') (k : endF P fn n m R .ret s') : endF P fn n m R .ret s := by
  obtain ⟨s2, v, h1, h2, h3⟩ := k
  exact ⟨s2, v, h.trans h1, h2, h3⟩

/-- A literal of a struct. -/
inductive FillW (E : Operand → V) (l : List (Nat × Nat × Bool)) : List V → List (Nat × Operand) → List V → Prop where
  | nil {vs : List V} : FillW E l vs [] vs
  | cons {i off n : Nat} {b : Bool} {x : Operand} {u : V} {vs vs' r : List V} {ps : List (Nat × Operand)} (hx : E x = u) (hk : okV u = true) (hi : l[i]? = some (off, n, b)) (hn : flen u = n) (he : vs.set i u = vs') (t : FillW E l vs' ps r) : FillW E l vs ((i, x) :: ps) r

theorem flL_get : ∀ {zs : List V} {k : Nat} {z : V}, zs[k]? = some z → ∀ u : V, flen u = flen z → ∀ i, flenL ((zs.set k u).take i) = flenL (zs.take i)
  | [], _, _, h, _, _, _ => by simp at h
  | z0 :: zs, 0, z, h, u, hu, i => by
    simp at h; subst h
    cases i with
    | zero => rfl
    | succ i => simp [flenL, hu]
  | z0 :: zs, k + 1, z, h, u, hu, i => by
    cases i with
    | zero => rfl
    | succ i => simp only [List.set_cons_succ, List.take_succ_cons, flenL]; rw [flL_get (by simpa using h) u hu i]

/-- The places of a struct's fields. -/
def okLay (l : List (Nat × Nat × Bool)) (zs : List V) : Bool := decide (l.length = zs.length) && (List.range zs.length).all fun i => match l[i]?, zs[i]? with
  | some (off, n, _), some z => off == flenL (zs.take i) && n == flen z
  | _, _ => false

structure LayOk (l : List (Nat × Nat × Bool)) (zs : List V) : Prop where
  len : l.length = zs.length
  at_ : ∀ i off n b, l[i]? = some (off, n, b) → ∃ z, zs[i]? = some z ∧ off = flenL (zs.take i) ∧ n = flen z

theorem okLay_ok {l : List (Nat × Nat × Bool)} {zs : List V} (h : okLay l zs = true) : LayOk l zs := by
  simp only [okLay, Bool.and_eq_true, decide_eq_true_eq, List.all_eq_true, List.mem_range] at h
  refine ⟨h.1, fun i off n b hi => ?_⟩
  have hlt : i < zs.length := by rw [← h.1]; exact (List.getElem?_eq_some_iff.1 hi).1
  have := h.2 i hlt
  rw [hi, List.getElem?_eq_getElem hlt] at this
  simp only [Bool.and_eq_true, beq_iff_eq] at this
  exact ⟨_, List.getElem?_eq_getElem hlt, this.1, this.2⟩

theorem LayOk.set {l : List (Nat × Nat × Bool)} {zs : List V} (h : LayOk l zs) {i off n : Nat} {b : Bool} (hi : l[i]? = some (off, n, b)) {u : V} (hu : flen u = n) : LayOk l (zs.set i u) := by
  obtain ⟨z, hz, _, hn⟩ := h.at_ i off n b hi
  refine ⟨by simp [h.len], fun j off' n' b' hj => ?_⟩
  obtain ⟨z', hz', ho', hn'⟩ := h.at_ j off' n' b' hj
  have hfl := flL_get hz u (hu.trans hn) j
  by_cases e : i = j
  · subst e
    rw [hi] at hj; cases hj
    exact ⟨u, by rw [List.getElem?_set_self (List.getElem?_eq_some_iff.1 hz).1], by rw [hfl]; exact ho', hu.symm⟩
  · exact ⟨z', by rw [List.getElem?_set_ne e]; exact hz', by rw [hfl]; exact ho', hn'⟩

theorem FillW.spec {E : Operand → V} {l : List (Nat × Nat × Bool)} {zs vs : List V} {ps : List (Nat × Operand)} (h : FillW E l zs ps vs) (hl : LayOk l zs) :
    fillOK (placeSt l) (.st zs) (ps.map fun p => (p.1, E p.2)) ∧ setParts (.st zs) (ps.map fun p => (p.1, E p.2)) = .st vs := by
  induction h with
  | nil => exact ⟨trivial, rfl⟩
  | @cons i off n b x u zs vs' r ps hx hk hi hn he _ ih =>
    subst he
    obtain ⟨z, hz, ho, hn'⟩ := hl.at_ i off n b hi
    obtain ⟨h1, h2⟩ := ih (hl.set hi hn)
    have hset : (V.st zs).setAt [i] u = .st (zs.set i u) := by rw [V.setAt_st, V.setAt_nil]
    simp only [List.map_cons, fillOK, setParts, hx, hset]
    refine ⟨⟨hk, ⟨off, n, z, by simp [placeSt, hi], by simp [V.at, hz], ?_, hn'.symm, hn⟩, h1⟩, h2⟩
    have hg : zs.getD i .undef = z := by simp [List.getD, hz]
    simp only [V.offOf, ho]
    omega

theorem OpS.vs {P : Program} {o : Oper} {E : Operand → V} {H H' : List AObj} {v v2 : V} (h : OpS P o E H v H') (hk : okV v = true) (hs : RSub v v2) : OpS P o E H v2 H' := by
  have hv := vsub hk hs
  intro g rc w hx hr
  have := h g rc w hx hr
  revert this
  cases (execOp rc o).run P w with
  | ok nx w' =>
    cases nx <;> intro this <;> simp only [OkRes] at this ⊢ <;> try exact this
    · obtain ⟨g', h1, h2⟩ := this; exact ⟨g', hv _ _ h1, h2⟩
    · obtain ⟨g', h1, h2⟩ := this; exact ⟨g', hv _ _ h1, h2⟩
    · refine this.mono fun e w'' he => ?_
      cases e with
      | returned x => obtain ⟨g', h1, h2⟩ := he; exact ⟨g', hv _ _ h1, h2⟩
      | panicked c => exact he
      | outgrown => exact he
  | halt x w' => exact fun h => h

section
variable {P : Program} {E : Operand → V} {H : List AObj} {dst : Option Tmp} {ty : TypeId} {pos : String} {aft : Array Edge} {gd : Option (Nat × Bool)}

theorem OpS.buildStW {t : TypeId} {parts : Array (Nat × Operand)} {l : List (Nat × Nat × Bool)} {zs vs : List V} (hl : layOf P t = some l) (hz : ZeroV P t (.st zs)) (ho : okLay l zs = true) (hp : FillW E l zs parts.toList vs) :
    OpS P ⟨dst, .build t parts, ty, pos, aft, gd⟩ E H (.st vs) H := .buildSt hl hz (hp.spec (okLay_ok ho)).1 (hp.spec (okLay_ok ho)).2 rfl
end
end Go.Av
