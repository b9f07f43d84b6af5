/- Abstract values of the model, and what it means that an abstract value stands for a value of the model. -/
import Derived.Orders
import Derived.Below
namespace Go.Av
set_option linter.unusedVariables false
set_option linter.unusedSimpArgs false

/-- What is known of the room behind a view. -/
inductive Tk where
  | no
  | nn
  | exact
  | tok (o : Nat)
  deriving DecidableEq, Inhabited

/-- Abstract values: trees. -/
inductive V where
  | bool (b : Bool)
  | int (k : IntKind) (n : Int)
  | str (s : ByteArray)
  | nilp
  | ptr (o : Nat) (path : List Nat) (off : Nat)
  | cptr (v : V)
  | nils
  | sl (e : Nat) (tk : Tk) (xs : List V)
  | slo (e : Nat) (o : Nat) (path : List Nat) (off : Nat) (lo len cap : Nat)
  | fn (f : FuncId) (first cap : List V)
  | nilfn
  | ifc (t : TypeId) (v : V)
  | nili
  | st (vs : List V)
  | arr (e : Nat) (vs : List V)
  | tup (vs : List V)
  | map (o : Nat)
  | nilmap
  | undef
  deriving Inhabited

def V.isAgg : V → Bool
  | .st _ => true
  | .arr _ _ => true
  | _ => false

def valAgg : Value → Bool
  | .agg _ => true
  | _ => false

mutual
def flen : V → Nat
  | .st vs => flenL vs
  | .arr e vs => vs.length * e
  | _ => 1
def flenL : List V → Nat
  | [] => 0
  | v :: vs => flen v + flenL vs
end

structure Place where
  block : Nat
  front : Nat
  size : Nat
  vac : Bool

structure Gh where
  I : Nat → Nat → Option Value
  ρ : List Place

/-- The constant cells from an address on. -/
def Gh.holds (g : Gh) (a : Addr) (cs : List Value) : Prop := ∀ (i : Nat) x, cs[i]? = some x → g.I a.block (a.off + i) = some x

def Tk.ok (g : Gh) (e : Nat) : Tk → Option Addr → Nat → Nat → Prop
  | .no, _, _, _ => True
  | .nn, a, _, _ => a ≠ none
  | .exact, _, len, cap => cap = len
  | .tok o, a, len, cap => cap = len ∨ ∃ p ad, g.ρ[o]? = some p ∧ p.vac = false ∧ a = some ad ∧ ad.spot = none ∧ ad.block = p.block ∧ ad.off + len * e = p.front ∧ ad.off + cap * e ≤ p.size

mutual
def RC (g : Gh) : V → List Value → Prop
  | .bool b, cs => cs = [.bool b]
  | .int k n, cs => cs = [.int k n]
  | .str s, cs => cs = [.string s]
  | .nilp, cs => cs = [.pointer none]
  | .ptr o _ off, cs => ∃ p, g.ρ[o]? = some p ∧ cs = [.pointer (some ⟨p.block, off, none⟩)]
  | .cptr v, cs => ∃ (a : Addr) (c : List Value), a.spot = none ∧ cs = [.pointer (some a)] ∧ RC g v c ∧ g.holds a c
  | .nils, cs => cs = [.slice none 0 0]
  | .sl e tk xs, cs => ∃ (a : Option Addr) (cap : Nat), cs = [.slice a xs.length cap] ∧ xs.length ≤ cap ∧ tk.ok g e a xs.length cap ∧
      ∃ c : List Value, RCu g e xs c ∧ (a = none → cap = 0) ∧ ∀ ad, a = some ad → (xs ≠ [] → ad.spot = none) ∧ g.holds ad c
  | .slo e o _ off lo len q, cs => ∃ p, g.ρ[o]? = some p ∧ ∃ (a : Option Addr) (c : Nat), cs = [.slice a len c] ∧ len ≤ c ∧ ((p.vac = true ∧ c = 0) ∨ (a = some ⟨p.block, off + lo * e, none⟩ ∧ (q = 1 → p.vac = false ∧ off + (lo + c) * e ≤ p.size)))
  | .fn f first cap, cs => ∃ a b : Array Value, cs = [.func (.func f) a b] ∧ RVl g first a.toList ∧ RVl g cap b.toList
  | .nilfn, cs => cs = [.nilFunc]
  | .ifc t v, cs => ∃ x : Value, cs = [.iface t x] ∧ v.isAgg = valAgg x ∧ RC g v x.cells.toList
  | .nili, cs => cs = [.nilIface]
  | .st vs, cs => RCs g vs cs
  | .arr e vs, cs => RCu g e vs cs
  | .tup _, _ => False
  | .map o, cs => ∃ p, g.ρ[o]? = some p ∧ cs = [.map (some p.block)]
  | .nilmap, cs => cs = [.map none]
  | .undef, _ => False
def RCs (g : Gh) : List V → List Value → Prop
  | [], cs => cs = []
  | v :: vs, cs => ∃ c₁ c₂, cs = c₁ ++ c₂ ∧ RC g v c₁ ∧ RCs g vs c₂
def RCu (g : Gh) (e : Nat) : List V → List Value → Prop
  | [], cs => cs = []
  | v :: vs, cs => ∃ c₁ c₂, cs = c₁ ++ c₂ ∧ c₁.length = e ∧ RC g v c₁ ∧ RCu g e vs c₂
def RVl (g : Gh) : List V → List Value → Prop
  | [], xs => xs = []
  | v :: vs, xs => ∃ x r, xs = x :: r ∧ v.isAgg = valAgg x ∧ RC g v x.cells.toList ∧ RVl g vs r
end

/-- A value of the model is told by an abstract one. -/
def RV (g : Gh) : V → Value → Prop
  | .undef, _ => True
  | .tup vs, x => ∃ xs, x = .tuple xs ∧ RVl g vs xs.toList
  | v, x => v.isAgg = valAgg x ∧ RC g v x.cells.toList

structure Gh.le (g g' : Gh) : Prop where
  imm : ∀ b i x, g.I b i = some x → g'.I b i = some x
  pre : ∀ (o : Nat) p, g.ρ[o]? = some p → g'.ρ[o]? = some p

theorem Gh.le.refl (g : Gh) : g.le g := ⟨fun _ _ _ h => h, fun _ _ h => h⟩
theorem Gh.le.trans {a b c : Gh} (h : a.le b) (k : b.le c) : a.le c := ⟨fun _ _ _ x => k.imm _ _ _ (h.imm _ _ _ x), fun _ _ x => k.pre _ _ (h.pre _ _ x)⟩
theorem Gh.holds.mono {g g' : Gh} (h : g.le g') {a : Addr} {cs : List Value} (k : g.holds a cs) : g'.holds a cs := fun i x hx => h.imm _ _ _ (k i x hx)
theorem Tk.ok.mono {g g' : Gh} (h : g.le g') {e : Nat} {tk : Tk} {a : Option Addr} {len cap : Nat} (k : tk.ok g e a len cap) : tk.ok g' e a len cap := by
  cases tk with
  | no => trivial
  | nn => exact k
  | exact => exact k
  | tok o =>
    rcases k with k | ⟨p, ad, h1, h2⟩
    · exact .inl k
    · exact .inr ⟨p, ad, h.pre _ _ h1, h2⟩

mutual
theorem RC.mono {g g' : Gh} (h : g.le g') : ∀ {v : V} {cs : List Value}, RC g v cs → RC g' v cs
  | .bool _, _, k => by simpa only [RC] using k
  | .int _ _, _, k => by simpa only [RC] using k
  | .str _, _, k => by simpa only [RC] using k
  | .nilp, _, k => by simpa only [RC] using k
  | .ptr _ _ _, _, k => by
    simp only [RC] at k ⊢
    obtain ⟨p, h1, h2⟩ := k
    exact ⟨p, h.pre _ _ h1, h2⟩
  | .cptr _, _, k => by
    simp only [RC] at k ⊢
    obtain ⟨a, c, h1, h2, h3, h4⟩ := k
    exact ⟨a, c, h1, h2, RC.mono h h3, h4.mono h⟩
  | .nils, _, k => by simpa only [RC] using k
  | .sl _ _ _, _, k => by
    simp only [RC] at k ⊢
    obtain ⟨a, cap, h1, h2, h3, c, h4, h5, h6⟩ := k
    exact ⟨a, cap, h1, h2, h3.mono h, c, RCu.mono h h4, h5, fun ad e => ⟨(h6 ad e).1, (h6 ad e).2.mono h⟩⟩
  | .slo _ _ _ _ _ _ _, _, k => by
    simp only [RC] at k ⊢
    obtain ⟨p, h1, h2⟩ := k
    exact ⟨p, h.pre _ _ h1, h2⟩
  | .fn _ _ _, _, k => by
    simp only [RC] at k ⊢
    obtain ⟨a, b, h1, h2, h3⟩ := k
    exact ⟨a, b, h1, RVl.mono h h2, RVl.mono h h3⟩
  | .nilfn, _, k => by simpa only [RC] using k
  | .ifc _ _, _, k => by
    simp only [RC] at k ⊢
    obtain ⟨x, h1, h2, h3⟩ := k
    exact ⟨x, h1, h2, RC.mono h h3⟩
  | .nili, _, k => by simpa only [RC] using k
  | .st _, _, k => by
    simp only [RC] at k ⊢
    exact RCs.mono h k
  | .arr _ _, _, k => by
    simp only [RC] at k ⊢
    exact RCu.mono h k
  | .tup _, _, k => by simp only [RC] at k
  | .map _, _, k => by
    simp only [RC] at k ⊢
    obtain ⟨p, h1, h2⟩ := k
    exact ⟨p, h.pre _ _ h1, h2⟩
  | .nilmap, _, k => by simpa only [RC] using k
  | .undef, _, k => by simp only [RC] at k
theorem RCs.mono {g g' : Gh} (h : g.le g') : ∀ {vs : List V} {cs : List Value}, RCs g vs cs → RCs g' vs cs
  | [], _, k => by simpa only [RCs] using k
  | _ :: _, _, k => by
    simp only [RCs] at k ⊢
    obtain ⟨a, b, h1, h2, h3⟩ := k
    exact ⟨a, b, h1, RC.mono h h2, RCs.mono h h3⟩
theorem RCu.mono {g g' : Gh} (h : g.le g') : ∀ {e : Nat} {vs : List V} {cs : List Value}, RCu g e vs cs → RCu g' e vs cs
  | _, [], _, k => by simpa only [RCu] using k
  | _, _ :: _, _, k => by
    simp only [RCu] at k ⊢
    obtain ⟨a, b, h1, h0, h2, h3⟩ := k
    exact ⟨a, b, h1, h0, RC.mono h h2, RCu.mono h h3⟩
theorem RVl.mono {g g' : Gh} (h : g.le g') : ∀ {vs : List V} {cs : List Value}, RVl g vs cs → RVl g' vs cs
  | [], _, k => by simpa only [RVl] using k
  | _ :: _, _, k => by
    simp only [RVl] at k ⊢
    obtain ⟨a, b, h1, h0, h2, h3⟩ := k
    exact ⟨a, b, h1, h0, RC.mono h h2, RVl.mono h h3⟩
end

theorem RV.of {g : Gh} {v : V} {x : Value} (h1 : v.isAgg = valAgg x) (h2 : RC g v x.cells.toList) : RV g v x := by
  cases v <;> first | exact ⟨h1, h2⟩ | trivial | (simp only [RC] at h2)

theorem RV.mono {g g' : Gh} (h : g.le g') {v : V} {x : Value} (k : RV g v x) : RV g' v x := by
  cases v <;> first
    | trivial
    | (obtain ⟨xs, e, k⟩ := k; exact ⟨xs, e, k.mono h⟩)
    | exact ⟨k.1, k.2.mono h⟩

end Go.Av
