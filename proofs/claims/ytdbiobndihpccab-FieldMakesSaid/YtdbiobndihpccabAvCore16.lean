/- Mirrors: what a function tells, as a plain function on typed values; one value that tells no more than another one; parts at a path. -/
import Derived.Test.YtdbiobndihpccabAvCore14
namespace Go.Av
set_option linter.unusedSimpArgs false
set_option linter.unusedVariables false
set_option linter.unusedSectionVars false

/-! What a mirror tells. -/

def Ok {α : Type} (m : Option α) (K : α → Prop) : Prop := ∃ a, m = some a ∧ K a
/-- A value that is named. -/
def letM {α β : Type} (e : α) (k : α → Option β) : Option β := k e
/-- What is asked only if .. -/
def gd {α : Type} [Inhabited α] (p : Prop) [Decidable p] (m : Option α) : Option α := if p then m else some default
/-- An index, if it is one. -/
def six {α : Type} (xs : List α) (n : Int) : Option Nat := if 0 ≤ n ∧ n < (xs.length : Int) then some n.toNat else none
def fix_ (k : Nat) (n : Int) : Option (Fin k) := if h : 0 ≤ n ∧ n < (k : Int) then some ⟨n.toNat, by omega⟩ else none
/-- One list behind another one, if there is room. -/
def app {α : Type} (b : Nat) (xs ys : List α) : Option (List α) := if (xs.length + ys.length) * b ≤ 140737488355328 then some (xs ++ ys) else none
def loopM {σ ρ : Type} (body : σ → Option (σ ⊕ ρ)) : Nat → σ → Option ρ
  | 0, _ => none
  | n + 1, s => match body s with
    | none => none
    | some (.inl t) => loopM body n t
    | some (.inr r) => some r
def fuel : Nat := 1180591620717411303424
def dvd (a : Int) : Option Unit := if a = 0 then none else some ()

section
variable {α β : Type} {K : β → Prop}
theorem Ok.of {m : Option β} {r : β} (h : m = some r) : Ok m fun a => a = r := ⟨r, h, rfl⟩
theorem Ok.bnd {m : Option α} {k : α → Option β} (h : Ok (m.bind k) K) : ∃ a, m = some a ∧ Ok (k a) K := by
  obtain ⟨b, h1, h2⟩ := h
  cases m with
  | none => simp at h1
  | some a => exact ⟨a, rfl, b, h1, h2⟩
theorem Ok.nam {e : α} {k : α → Option β} (h : Ok (letM e k) K) : ∃ a, a = e ∧ Ok (k a) K := ⟨e, rfl, h⟩
theorem Ok.ret {a : β} (h : Ok (some a) K) : K a := by obtain ⟨b, h1, h2⟩ := h; cases h1; exact h2
theorem Ok.no (h : Ok (none : Option β) K) : False := by obtain ⟨b, h1, h2⟩ := h; cases h1
theorem Ok.t {c : Prop} [Decidable c] {X Y : Option β} (h : Ok (if c then X else Y) K) (hc : c) : Ok X K := by rwa [if_pos hc] at h
theorem Ok.f {c : Prop} [Decidable c] {X Y : Option β} (h : Ok (if c then X else Y) K) (hc : ¬ c) : Ok Y K := by rwa [if_neg hc] at h
theorem Ok.ff {b : Bool} {X Y : Option β} (h : Ok (if b = true then X else Y) K) (hc : b = false) : Ok Y K := h.f (by simp [hc])
theorem gd_get [Inhabited α] {p : Prop} [Decidable p] {m : Option α} {a : α} (h : gd p m = some a) (hp : p) : m = some a := by rwa [gd, if_pos hp] at h
theorem six_get {xs : List α} {n : Int} {j : Nat} (h : six xs n = some j) : 0 ≤ n ∧ n < (xs.length : Int) ∧ j = n.toNat ∧ j < xs.length := by
  unfold six at h
  split at h
  · rename_i hc; cases h; exact ⟨hc.1, hc.2, rfl, by omega⟩
  · cases h
theorem six_lt {xs : List α} {n : Int} {j : Nat} (h : six xs n = some j) : j < xs.length := (six_get h).2.2.2
theorem fix_get {k : Nat} {n : Int} {j : Fin k} (h : fix_ k n = some j) : 0 ≤ n ∧ n < (k : Int) ∧ n.toNat = j.val := by
  unfold fix_ at h
  split at h
  · rename_i hc; cases h; exact ⟨hc.1, hc.2, rfl⟩
  · cases h
theorem app_get {b : Nat} {xs ys zs : List α} (h : app b xs ys = some zs) : (xs.length + ys.length) * b ≤ 140737488355328 ∧ zs = xs ++ ys := by
  unfold app at h
  split at h
  · rename_i hc; cases h; exact ⟨hc, rfl⟩
  · cases h
theorem dvd_get {a : Int} {u : Unit} (h : dvd a = some u) : a ≠ 0 := by
  unfold dvd at h
  split at h
  · cases h
  · assumption
end

/-- A round of a loop. -/
def loopK {σ ρ : Type} (body : σ → Option (σ ⊕ ρ)) (n : Nat) (q : ρ) : σ ⊕ ρ → Prop
  | .inl t => loopM body n t = some q
  | .inr r => r = q
theorem loopM.step {σ ρ : Type} {body : σ → Option (σ ⊕ ρ)} {n : Nat} {s : σ} {q : ρ} (h : loopM body n s = some q) : ∃ m, m < n ∧ Ok (body s) (loopK body m q) := by
  cases n with
  | zero => simp [loopM] at h
  | succ n =>
    refine ⟨n, Nat.lt_succ_self n, ?_⟩
    simp only [loopM] at h
    cases hb : body s with
    | none => rw [hb] at h; cases h
    | some z =>
      rw [hb] at h
      cases z with
      | inl t => exact ⟨_, rfl, h⟩
      | inr r => exact ⟨_, rfl, Option.some.inj h⟩

theorem AWp.condM {P : Program} {n m : Nat} {Q : AEx → St → Prop} {s : St} {c : Operand} {x y : Code} {b : Bool} {α : Type} {X Y : Option α} {K : α → Prop} (hc : ev s.env c = .bool b) (h : Ok (if b = true then X else Y) K)
    (h1 : b = true → Ok X K → AWp P n m x Q s) (h2 : b = false → Ok Y K → AWp P n m y Q s) : AWp P n m (.cond c x y) Q s :=
  .cond hc (fun e => h1 e (h.t e)) (fun e => h2 e (h.ff e))
theorem AWp.condT {P : Program} {n m : Nat} {Q : AEx → St → Prop} {s : St} {c : Operand} {x y : Code} (hc : ev s.env c = .bool true) (h1 : AWp P n m x Q s) : AWp P n m (.cond c x y) Q s :=
  .cond hc (fun _ => h1) (fun e => by cases e)
theorem AWp.condF {P : Program} {n m : Nat} {Q : AEx → St → Prop} {s : St} {c : Operand} {x y : Code} (hc : ev s.env c = .bool false) (h1 : AWp P n m y Q s) : AWp P n m (.cond c x y) Q s :=
  .cond hc (fun e => by cases e) (fun _ => h1)

/-- Where ways meet, in one state. -/
theorem AWp.cut1 {P : Program} {n m : Nat} {Q : AEx → St → Prop} {s : St} {x y : Code} (S : St) (h : AWp P n m x (thenQ (fun s' => Wk n m s' S) Q) s) (k : AWp P n m y Q S) : AWp P n m (.seq x y) Q s :=
  .seq (h.mono fun e s' hq => by
    cases e with
    | normal => exact .wk hq k
    | _ => exact hq)

/-! One value tells no more than another one: by its cells. -/

structure RSub (v v' : V) : Prop where
  agg : v.isAgg = v'.isAgg
  fl : flen v = flen v'
  rc : ∀ g cs, RC g v cs → RC g v' cs

theorem RSub.refl (v : V) : RSub v v := ⟨rfl, rfl, fun _ _ h => h⟩
theorem RSub.eq {v v' : V} (h : v = v') : RSub v v' := h ▸ .refl v
theorem RSub.trans {a b c : V} (h : RSub a b) (k : RSub b c) : RSub a c := ⟨h.agg.trans k.agg, h.fl.trans k.fl, fun g cs x => k.rc g cs (h.rc g cs x)⟩
theorem RSub.nils (e : Nat) : RSub .nils (.sl e .exact []) := ⟨rfl, rfl, fun g cs h => by
  simp only [RC] at h ⊢
  exact ⟨none, 0, h, by simp, rfl, [], by simp [RCu], fun _ => rfl, fun ad h => by cases h⟩⟩
theorem RSub.forget (e : Nat) (tk : Tk) (xs : List V) : RSub (.sl e tk xs) (.sl e .no xs) := ⟨rfl, rfl, fun g cs h => by
  simp only [RC] at h ⊢
  obtain ⟨a, cap, h1, h3, h4, h5⟩ := h
  exact ⟨a, cap, h1, h3, trivial, h5⟩⟩
theorem RSub.tok (e o : Nat) (xs : List V) : RSub (.sl e .exact xs) (.sl e (.tok o) xs) := ⟨rfl, rfl, fun g cs h => by
  simp only [RC] at h ⊢
  obtain ⟨a, cap, h1, h3, h4, h5⟩ := h
  exact ⟨a, cap, h1, h3, .inl h4, h5⟩⟩
theorem RSub.nils_no (e : Nat) : RSub .nils (.sl e .no []) := (RSub.nils e).trans (.forget e _ _)
theorem RSub.nils_tok (e o : Nat) : RSub .nils (.sl e (.tok o) []) := (RSub.nils e).trans (.tok e o _)

inductive RSubL : List V → List V → Prop where
  | nil : RSubL [] []
  | cons {v v' : V} {vs vs' : List V} (h : RSub v v') (t : RSubL vs vs') : RSubL (v :: vs) (v' :: vs')

theorem RSubL.refl : ∀ (l : List V), RSubL l l
  | [] => .nil
  | v :: l => .cons (.refl v) (RSubL.refl l)
theorem RSubL.fl {vs vs' : List V} (h : RSubL vs vs') : flenL vs = flenL vs' := by
  induction h with
  | nil => rfl
  | cons h _ ih => simp [flenL, h.fl, ih]
theorem RSubL.rcs {vs vs' : List V} (h : RSubL vs vs') {g : Gh} : ∀ {cs : List Value}, RCs g vs cs → RCs g vs' cs := by
  induction h with
  | nil => exact fun h => h
  | cons h _ ih =>
    intro cs hc
    simp only [RCs] at hc ⊢
    obtain ⟨a, b, h1, h2, h3⟩ := hc
    exact ⟨a, b, h1, h.rc g _ h2, ih h3⟩
theorem RSubL.rcu {e : Nat} {vs vs' : List V} (h : RSubL vs vs') {g : Gh} : ∀ {cs : List Value}, RCu g e vs cs → RCu g e vs' cs := by
  induction h with
  | nil => exact fun h => h
  | cons h _ ih =>
    intro cs hc
    simp only [RCu] at hc ⊢
    obtain ⟨a, b, h1, h0, h2, h3⟩ := hc
    exact ⟨a, b, h1, h0, h.rc g _ h2, ih h3⟩
theorem RSubL.len {vs vs' : List V} (h : RSubL vs vs') : vs.length = vs'.length := by
  induction h with
  | nil => rfl
  | cons _ _ ih => simp [ih]
theorem RSub.st {vs vs' : List V} (h : RSubL vs vs') : RSub (.st vs) (.st vs') := ⟨rfl, by simp [flen, h.fl], fun g cs hc => by simp only [RC] at hc ⊢; exact h.rcs hc⟩
theorem RSub.arr {e : Nat} {vs vs' : List V} (h : RSubL vs vs') : RSub (.arr e vs) (.arr e vs') := ⟨rfl, by simp [flen, h.len], fun g cs hc => by simp only [RC] at hc ⊢; exact h.rcu hc⟩
theorem RSub.sl {e : Nat} {tk : Tk} {vs vs' : List V} (h : RSubL vs vs') : RSub (.sl e tk vs) (.sl e tk vs') := ⟨rfl, rfl, fun g cs hc => by
  simp only [RC] at hc ⊢
  obtain ⟨a, cap, h1, h3, h4, c, h5, h6, h7⟩ := hc
  refine ⟨a, cap, by rw [← h.len]; exact h1, by rw [← h.len]; exact h3, by rw [← h.len]; exact h4, c, h.rcu h5, h6, fun ad e => ⟨fun hn => (h7 ad e).1 fun hv => hn (by subst hv; cases h; rfl), (h7 ad e).2⟩⟩⟩
theorem RSub.sub {v v' : V} (h : RSub v v') (ht : (match v with | .tup _ => false | .undef => false | _ => true) = true) : v.sub v' := fun g x hx => by
  refine RV.of ?_ ?_
  · cases v <;> first | (simp at ht; done) | exact h.agg.symm.trans hx.1
  · cases v <;> first | (simp at ht; done) | exact h.rc g _ hx.2

/-! Types of typed values. -/

structure TyOk {α : Type} (f : α → V) (n : Nat) (b : Bool) : Prop where
  fl : ∀ x, flen (f x) = n
  ag : ∀ x, (f x).isAgg = b
  ok : ∀ x, okV (f x) = true
  lt : ∀ x m, (f x).lt m = true
  nu : ∀ x, (match f x with | .tup _ => false | .undef => false | _ => true) = true

theorem ltL_nil {m : Nat} : V.ltL m [] = true := rfl
theorem ltL_c {m : Nat} {v : V} {vs : List V} (h : v.lt m = true) (t : V.ltL m vs = true) : V.ltL m (v :: vs) = true := by simp only [V.ltL, h, t, Bool.and_self]
theorem lt_st {m : Nat} {vs : List V} (h : V.ltL m vs = true) : (V.st vs).lt m = true := by simpa only [V.lt] using h
theorem lt_tup {m : Nat} {vs : List V} (h : V.ltL m vs = true) : (V.tup vs).lt m = true := by simpa only [V.lt] using h
theorem lt_arr {m e : Nat} {vs : List V} (h : V.ltL m vs = true) : (V.arr e vs).lt m = true := by simpa only [V.lt] using h
theorem lt_sl {m e : Nat} {tk : Tk} {vs : List V} (ht : tk.lt m = true) (h : V.ltL m vs = true) : (V.sl e tk vs).lt m = true := by simp only [V.lt, ht, h, Bool.and_self]
theorem lt_fn {m : Nat} {f : FuncId} {a b : List V} (h : V.ltL m a = true) (k : V.ltL m b = true) : (V.fn f a b).lt m = true := by simp only [V.lt, h, k, Bool.and_self]
theorem lt_cptr {m : Nat} {v : V} (h : v.lt m = true) : (V.cptr v).lt m = true := by simpa only [V.lt] using h
theorem lt_ifc {m : Nat} {t : TypeId} {v : V} (h : v.lt m = true) : (V.ifc t v).lt m = true := by simpa only [V.lt] using h

theorem TyOk.int (k : IntKind) : TyOk (V.int k) 1 false := ⟨fun _ => rfl, fun _ => rfl, fun _ => rfl, fun _ _ => rfl, fun _ => rfl⟩
theorem TyOk.bool : TyOk V.bool 1 false := ⟨fun _ => rfl, fun _ => rfl, fun _ => rfl, fun _ _ => rfl, fun _ => rfl⟩
theorem TyOk.str : TyOk V.str 1 false := ⟨fun _ => rfl, fun _ => rfl, fun _ => rfl, fun _ _ => rfl, fun _ => rfl⟩
theorem TyOk.ltm {α : Type} {f : α → V} {n : Nat} {b : Bool} (h : TyOk f n b) (m : Nat) (l : List α) : V.ltL m (l.map f) = true := ltL_map (fun x => h.lt x m) l
theorem TyOk.sl {α : Type} {f : α → V} {n : Nat} {b : Bool} (h : TyOk f n b) : TyOk (fun l : List α => V.sl n .no (l.map f)) 1 false :=
  ⟨fun _ => rfl, fun _ => rfl, fun _ => rfl, fun l m => lt_sl rfl (h.ltm m l), fun _ => rfl⟩
theorem TyOk.arr {α : Type} {f : α → V} {n k : Nat} {b : Bool} (h : TyOk f n b) : TyOk (fun l : Vector α k => V.arr n (l.toList.map f)) (k * n) true :=
  ⟨fun l => by simp [flen], fun _ => rfl, fun _ => rfl, fun l m => lt_arr (h.ltm m l.toList), fun _ => rfl⟩
theorem TyOk.cptr {α : Type} {f : α → V} {n : Nat} {b : Bool} (h : TyOk f n b) : TyOk (fun x : α => V.cptr (f x)) 1 false :=
  ⟨fun _ => rfl, fun _ => rfl, fun _ => rfl, fun x m => lt_cptr (h.lt x m), fun _ => rfl⟩
theorem TyOk.cl {α : Type} {f : α → V} {n : Nat} {b : Bool} (h : TyOk f n b) (φ : Nat → Nat) (x : α) : (f x).ren φ = f x := V.ren_closed φ (h.lt x 0)

/-! Parts at a path. -/

inductive AtP : V → List Nat → Nat → V → Prop where
  | nil {v : V} : AtP v [] 0 v
  | st {vs : List V} {k d off : Nat} {w u : V} {p : List Nat} (hk : vs[k]? = some w) (ho : flenL (vs.take k) = d) (h : AtP w p off u) : AtP (.st vs) (k :: p) (d + off) u
  | ar {e k off : Nat} {vs : List V} {w u : V} {p : List Nat} (hk : vs[k]? = some w) (h : AtP w p off u) : AtP (.arr e vs) (k :: p) (k * e + off) u

theorem AtP.ls {α : Type} [Inhabited α] {f : α → V} {xs : List α} {e j off : Nat} {u : V} {p : List Nat} (hj : j < xs.length) (h : AtP (f (xs.getD j default)) p off u) : AtP (.arr e (xs.map f)) (j :: p) (j * e + off) u :=
  .ar (by simp [List.getD, hj]) h
theorem vec_at {α : Type} (f : α → V) {k : Nat} (xs : Vector α k) (j : Fin k) : (xs.toList.map f)[j.val]? = some (f (xs.get j)) := by
  rw [List.getElem?_map]
  have : xs.toList[j.val]? = some (xs.get j) := by
    rw [List.getElem?_eq_getElem (by simp)]
    simp [Vector.get]
  rw [this]; rfl
theorem AtP.vc {α : Type} {f : α → V} {k : Nat} {xs : Vector α k} {e off : Nat} {u : V} {p : List Nat} (j : Fin k) (h : AtP (f (xs.get j)) p off u) : AtP (.arr e (xs.toList.map f)) (j.val :: p) (j.val * e + off) u := by
  exact .ar (vec_at f xs j) h

theorem AtP.spec {v u : V} {p : List Nat} {off : Nat} (h : AtP v p off u) : v.at p = some u ∧ ∀ acc, v.offOf p acc = acc + off := by
  induction h with
  | nil => exact ⟨by simp [V.at], fun acc => by simp [V.offOf]⟩
  | st hk ho h ih =>
    refine ⟨by simp only [V.at, hk]; exact ih.1, fun acc => ?_⟩
    simp only [V.offOf, List.getD_eq_getElem?_getD, hk, Option.getD_some, ih.2]
    omega
  | ar hk h ih =>
    refine ⟨by simp only [V.at, hk]; exact ih.1, fun acc => ?_⟩
    simp only [V.offOf, List.getD_eq_getElem?_getD, hk, Option.getD_some, ih.2]
    omega

inductive SetP : V → List Nat → V → V → Prop where
  | nil {v u : V} : SetP v [] u u
  | st {vs vs' : List V} {k : Nat} {w w' u : V} {p : List Nat} (hk : vs[k]? = some w) (h : SetP w p u w') (he : vs.set k w' = vs') : SetP (.st vs) (k :: p) u (.st vs')
  | ar {vs vs' : List V} {e k : Nat} {w w' u : V} {p : List Nat} (hk : vs[k]? = some w) (h : SetP w p u w') (he : vs.set k w' = vs') : SetP (.arr e vs) (k :: p) u (.arr e vs')

theorem SetP.ls {α : Type} [Inhabited α] {f : α → V} {xs : List α} {e j : Nat} {u : V} {p : List Nat} (y : α) (hj : j < xs.length) (h : SetP (f (xs.getD j default)) p u (f y)) : SetP (.arr e (xs.map f)) (j :: p) u (.arr e ((xs.set j y).map f)) :=
  .ar (w := f (xs.getD j default)) (by simp [List.getD, hj]) h List.map_set.symm
theorem SetP.vc {α : Type} {f : α → V} {k : Nat} {xs : Vector α k} {e : Nat} {u : V} {p : List Nat} (y : α) (j : Fin k) (h : SetP (f (xs.get j)) p u (f y)) : SetP (.arr e (xs.toList.map f)) (j.val :: p) u (.arr e ((xs.set j.val y).toList.map f)) := by
  refine .ar (w := f (xs.get j)) (vec_at f xs j) h ?_
  rw [Vector.toList_set, List.map_set]
theorem SetP.cast {v u w w' : V} {p : List Nat} (h : SetP v p u w) (he : w = w') : SetP v p u w' := he ▸ h

theorem SetP.spec {v u v' : V} {p : List Nat} (h : SetP v p u v') : v.setAt p u = v' := by
  induction h with
  | nil => exact V.setAt_nil _ _
  | st hk h he ih => rw [V.setAt_st, List.getD_eq_getElem?_getD, hk, Option.getD_some, ih, he]
  | ar hk h he ih => rw [V.setAt_arr, List.getD_eq_getElem?_getD, hk, Option.getD_some, ih, he]

end Go.Av
