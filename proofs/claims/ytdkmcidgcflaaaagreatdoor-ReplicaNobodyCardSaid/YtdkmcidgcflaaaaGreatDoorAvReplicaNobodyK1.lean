/- Abstract values over the model, rules for walks. -/
import Derived.Orders
import Derived.Below
import Derived.Laws.CopyRow
import Derived.Scope
import Derived.Laws.Sem
import Derived.Laws.Entries
import Derived.Laws.Cells
import Derived.Laws.StructEq
import Derived.ChangeKeysEq
set_option linter.unusedSimpArgs false
set_option linter.unusedVariables false
set_option linter.unusedSectionVars false
namespace Go.Av
variable {parts : Array (Nat × Operand)} {ops : Array Oper} {ats : Array TypeId} {eag : Bool} {k : IntKind} {ids path : List Nat} {cs : List Value} {by_ cap d i id j lo m o : Nat} {x y : Operand} {P : Program} {et t' ty xt : TypeId} {w w' : World}
def glB : Nat := 0
def glL : List Int := [0, 498536548, 997073096, 651767980, 1994146192, 1802195444, 1303535960, 1342533948, 3988292384, 4027552580, 3604390888, 3412177804, 2607071920, 2262029012, 2685067896, 3183342108]
/-- What is known of the room behind a view. -/
inductive Tk where
 | no
 | nn
 | exact
 | tok (o : Nat)
 deriving DecidableEq, Inhabited

/-- Abstract values: trees. -/
inductive V where
 | bool (b : Bool)
 | int (k : IntKind) (n : Int)
 | str (s : ByteArray)
 | nilp
 | ptr (o : Nat) (path : List Nat) (off : Nat)
 | cptr (v : V)
 | nils
 | sl (e : Nat) (tk : Tk) (xs : List V)
 | slo (e : Nat) (o : Nat) (path : List Nat) (off : Nat) (lo len cap : Nat)
 | fn (f : FuncId) (first cap : List V)
 | nilfn
 | ifc (t : TypeId) (v : V)
 | nili
 | st (vs : List V)
 | arr (e : Nat) (vs : List V)
 | tup (vs : List V)
 | map (o : Nat)
 | nilmap
 | undef
 deriving Inhabited

def V.isAgg : V → Bool
 | .st _ => true
 | .arr _ _ => true
 | _ => false

def valAgg : Value → Bool
 | .agg _ => true
 | _ => false

mutual
def flen : V → Nat
 | .st vs => flenL vs
 | .arr e vs => vs.length * e
 | _ => 1
def flenL : List V → Nat
 | [] => 0
 | v :: vs => flen v + flenL vs
end

structure Place where
 block : Nat
 front : Nat
 size : Nat
 vac : Bool

structure Gh where
 I : Nat → Nat → Option Value
 ρ : List Place

/-- The constant cells from an address on. -/
def Gh.holds (g : Gh) (a : Addr) (cs : List Value) : Prop := ∀ (i : Nat) x, cs[i]? = some x → g.I a.block (a.off + i) = some x

def Tk.ok (g : Gh) (e : Nat) : Tk → Option Addr → Nat → Nat → Prop
 | .no, _, _, _ => True
 | .nn, a, _, _ => a ≠ none
 | .exact, _, len, cap => cap = len
 | .tok o, a, len, cap => cap = len ∨ ∃ p ad, g.ρ[o]? = some p ∧ p.vac = false ∧ a = some ad ∧ ad.spot = none ∧ ad.block = p.block ∧ ad.off + len * e = p.front ∧ ad.off + cap * e ≤ p.size

mutual
def RC (g : Gh) : V → List Value → Prop
 | .bool b, cs => cs = [.bool b]
 | .int k n, cs => cs = [.int k n]
 | .str s, cs => cs = [.string s]
 | .nilp, cs => cs = [.pointer none]
 | .ptr o _ off, cs => ∃ p, g.ρ[o]? = some p ∧ cs = [.pointer (some ⟨p.block, off, none⟩)]
 | .cptr v, cs => ∃ (a : Addr) (c : List Value), a.spot = none ∧ cs = [.pointer (some a)] ∧ RC g v c ∧ g.holds a c
 | .nils, cs => cs = [.slice none 0 0]
 | .sl e tk xs, cs => ∃ (a : Option Addr) (cap : Nat), cs = [.slice a xs.length cap] ∧ xs.length ≤ cap ∧ tk.ok g e a xs.length cap ∧
   ∃ c : List Value, RCu g e xs c ∧ (a = none → cap = 0) ∧ ∀ ad, a = some ad → (xs ≠ [] → ad.spot = none) ∧ g.holds ad c
 | .slo e o _ off lo len q, cs => ∃ p, g.ρ[o]? = some p ∧ ∃ (a : Option Addr) (c : Nat), cs = [.slice a len c] ∧ len ≤ c ∧ ((p.vac = true ∧ c = 0) ∨ (a = some ⟨p.block, off + lo * e, none⟩ ∧ (q = 1 → p.vac = false ∧ off + (lo + c) * e ≤ p.size)))
 | .fn f first cap, cs => ∃ a b : Array Value, cs = [.func (.func f) a b] ∧ RVl g first a.toList ∧ RVl g cap b.toList
 | .nilfn, cs => cs = [.nilFunc]
 | .ifc t v, cs => ∃ x : Value, cs = [.iface t x] ∧ v.isAgg = valAgg x ∧ RC g v x.cells.toList
 | .nili, cs => cs = [.nilIface]
 | .st vs, cs => RCs g vs cs
 | .arr e vs, cs => RCu g e vs cs
 | .tup _, _ => False
 | .map o, cs => ∃ p, g.ρ[o]? = some p ∧ cs = [.map (some p.block)]
 | .nilmap, cs => cs = [.map none]
 | .undef, _ => False
def RCs (g : Gh) : List V → List Value → Prop
 | [], cs => cs = []
 | v :: vs, cs => ∃ c₁ c₂, cs = c₁ ++ c₂ ∧ RC g v c₁ ∧ RCs g vs c₂
def RCu (g : Gh) (e : Nat) : List V → List Value → Prop
 | [], cs => cs = []
 | v :: vs, cs => ∃ c₁ c₂, cs = c₁ ++ c₂ ∧ c₁.length = e ∧ RC g v c₁ ∧ RCu g e vs c₂
def RVl (g : Gh) : List V → List Value → Prop
 | [], xs => xs = []
 | v :: vs, xs => ∃ x r, xs = x :: r ∧ v.isAgg = valAgg x ∧ RC g v x.cells.toList ∧ RVl g vs r
end

/-- A value of the model is told by an abstract one. -/
def RV (g : Gh) : V → Value → Prop
 | .undef, _ => True
 | .tup vs, x => ∃ xs, x = .tuple xs ∧ RVl g vs xs.toList
 | v, x => v.isAgg = valAgg x ∧ RC g v x.cells.toList

structure Gh.le (g g' : Gh) : Prop where
 imm : ∀ b i x, g.I b i = some x → g'.I b i = some x
 pre : ∀ (o : Nat) p, g.ρ[o]? = some p → g'.ρ[o]? = some p

theorem Gh.le.refl (g : Gh) : g.le g := ⟨fun _ _ _ h => h, fun _ _ h => h⟩
theorem Gh.le.trans {a b c : Gh} (h : a.le b) (k : b.le c) : a.le c := ⟨fun _ _ _ x => k.imm _ _ _ (h.imm _ _ _ x), fun _ _ x => k.pre _ _ (h.pre _ _ x)⟩
theorem Gh.holds.mono {g g' : Gh} (h : g.le g') {a : Addr} (k : g.holds a cs) : g'.holds a cs := fun i x hx => h.imm _ _ _ (k i x hx)
theorem Tk.ok.mono {g g' : Gh} (h : g.le g') {e : Nat} {tk : Tk} {a : Option Addr} {len : Nat} (k : tk.ok g e a len cap) : tk.ok g' e a len cap := by
 cases tk with
 | no => trivial
 | nn => exact k
 | exact => exact k
 | tok o =>
  rcases k with k | ⟨p, ad, h1, h2⟩
  ·exact .inl k
  ·exact .inr ⟨p, ad, h.pre _ _ h1, h2⟩

mutual
theorem RC.mono {g g' : Gh} (h : g.le g') : ∀ {v : V} {cs : List Value}, RC g v cs → RC g' v cs
 | .bool _, _, k => by simpa only [RC] using k
 | .int _ _, _, k => by simpa only [RC] using k
 | .str _, _, k => by simpa only [RC] using k
 | .nilp, _, k => by simpa only [RC] using k
 | .ptr _ _ _, _, k => by
  simp only [RC] at k ⊢
  obtain ⟨p, h1, h2⟩ := k
  exact ⟨p, h.pre _ _ h1, h2⟩
 | .cptr _, _, k => by
  simp only [RC] at k ⊢
  obtain ⟨a, c, h1, h2, h3, h4⟩ := k
  exact ⟨a, c, h1, h2, RC.mono h h3, h4.mono h⟩
 | .nils, _, k => by simpa only [RC] using k
 | .sl _ _ _, _, k => by
  simp only [RC] at k ⊢
  obtain ⟨a, cap, h1, h2, h3, c, h4, h5, h6⟩ := k
  exact ⟨a, cap, h1, h2, h3.mono h, c, RCu.mono h h4, h5, fun ad e => ⟨(h6 ad e).1, (h6 ad e).2.mono h⟩⟩
 | .slo _ _ _ _ _ _ _, _, k => by
  simp only [RC] at k ⊢
  obtain ⟨p, h1, h2⟩ := k
  exact ⟨p, h.pre _ _ h1, h2⟩
 | .fn _ _ _, _, k => by
  simp only [RC] at k ⊢
  obtain ⟨a, b, h1, h2, h3⟩ := k
  exact ⟨a, b, h1, RVl.mono h h2, RVl.mono h h3⟩
 | .nilfn, _, k => by simpa only [RC] using k
 | .ifc _ _, _, k => by
  simp only [RC] at k ⊢
  obtain ⟨x, h1, h2, h3⟩ := k
  exact ⟨x, h1, h2, RC.mono h h3⟩
 | .nili, _, k => by simpa only [RC] using k
 | .st _, _, k => by
  simp only [RC] at k ⊢
  exact RCs.mono h k
 | .arr _ _, _, k => by
  simp only [RC] at k ⊢
  exact RCu.mono h k
 | .tup _, _, k => by simp only [RC] at k
 | .map _, _, k => by
  simp only [RC] at k ⊢
  obtain ⟨p, h1, h2⟩ := k
  exact ⟨p, h.pre _ _ h1, h2⟩
 | .nilmap, _, k => by simpa only [RC] using k
 | .undef, _, k => by simp only [RC] at k
theorem RCs.mono {g g' : Gh} (h : g.le g') : ∀ {vs : List V} {cs : List Value}, RCs g vs cs → RCs g' vs cs
 | [], _, k => by simpa only [RCs] using k
 | _ :: _, _, k => by
  simp only [RCs] at k ⊢
  obtain ⟨a, b, h1, h2, h3⟩ := k
  exact ⟨a, b, h1, RC.mono h h2, RCs.mono h h3⟩
theorem RCu.mono {g g' : Gh} (h : g.le g') : ∀ {e : Nat} {vs : List V} {cs : List Value}, RCu g e vs cs → RCu g' e vs cs
 | _, [], _, k => by simpa only [RCu] using k
 | _, _ :: _, _, k => by
  simp only [RCu] at k ⊢
  obtain ⟨a, b, h1, h0, h2, h3⟩ := k
  exact ⟨a, b, h1, h0, RC.mono h h2, RCu.mono h h3⟩
theorem RVl.mono {g g' : Gh} (h : g.le g') : ∀ {vs : List V} {cs : List Value}, RVl g vs cs → RVl g' vs cs
 | [], _, k => by simpa only [RVl] using k
 | _ :: _, _, k => by
  simp only [RVl] at k ⊢
  obtain ⟨a, b, h1, h0, h2, h3⟩ := k
  exact ⟨a, b, h1, h0, RC.mono h h2, RVl.mono h h3⟩
end

theorem RV.of {g : Gh} {v : V} {x : Value} (h1 : v.isAgg = valAgg x) (h2 : RC g v x.cells.toList) : RV g v x := by
 cases v <;> first | exact ⟨h1, h2⟩ | trivial | (simp only [RC] at h2)

theorem RV.mono {g g' : Gh} (h : g.le g') {v : V} {x : Value} (k : RV g v x) : RV g' v x := by
 cases v <;> first
  | trivial
  | (obtain ⟨xs, e, k⟩ := k; exact ⟨xs, e, k.mono h⟩)
  | exact ⟨k.1, k.2.mono h⟩
section
variable {g : Gh}

mutual
theorem RC.len {g : Gh} : ∀ {v : V} {cs : List Value}, RC g v cs → cs.length = flen v
 | .bool _, _, k => by simp only [RC] at k; simp [k, flen]
 | .int _ _, _, k => by simp only [RC] at k; simp [k, flen]
 | .str _, _, k => by simp only [RC] at k; simp [k, flen]
 | .nilp, _, k => by simp only [RC] at k; simp [k, flen]
 | .ptr _ _ _, _, k => by simp only [RC] at k; obtain ⟨p, h1, h2⟩ := k; simp [h2, flen]
 | .cptr _, _, k => by simp only [RC] at k; obtain ⟨a, c, h1, h2, h3, h4⟩ := k; simp [h2, flen]
 | .nils, _, k => by simp only [RC] at k; simp [k, flen]
 | .sl _ _ _, _, k => by simp only [RC] at k; obtain ⟨a, cap, h1, h2⟩ := k; simp [h1, flen]
 | .slo _ _ _ _ _ _ _, _, k => by simp only [RC] at k; obtain ⟨p, h1, a, c, h2, h3⟩ := k; simp [h2, flen]
 | .fn _ _ _, _, k => by simp only [RC] at k; obtain ⟨a, b, h1, h2, h3⟩ := k; simp [h1, flen]
 | .nilfn, _, k => by simp only [RC] at k; simp [k, flen]
 | .ifc _ _, _, k => by simp only [RC] at k; obtain ⟨x, h1, h2, h3⟩ := k; simp [h1, flen]
 | .nili, _, k => by simp only [RC] at k; simp [k, flen]
 | .st _, _, k => by simp only [RC] at k; simp only [flen]; exact RCs.len k
 | .arr _ _, _, k => by simp only [RC] at k; simp only [flen]; exact RCu.len k
 | .tup _, _, k => by simp only [RC] at k
 | .map _, _, k => by simp only [RC] at k; obtain ⟨p, h1, h2⟩ := k; simp [h2, flen]
 | .nilmap, _, k => by simp only [RC] at k; simp [k, flen]
 | .undef, _, k => by simp only [RC] at k
theorem RCs.len {g : Gh} : ∀ {vs : List V} {cs : List Value}, RCs g vs cs → cs.length = flenL vs
 | [], _, k => by simp only [RCs] at k; simp [k, flenL]
 | _ :: _, _, k => by
  simp only [RCs] at k
  obtain ⟨a, b, h1, h2, h3⟩ := k
  simp [h1, flenL, RC.len h2, RCs.len h3]
theorem RCu.len {g : Gh} {e : Nat} : ∀ {vs : List V} {cs : List Value}, RCu g e vs cs → cs.length = vs.length * e
 | [], _, k => by simp only [RCu] at k; simp [k]
 | _ :: _, _, k => by
  simp only [RCu] at k
  obtain ⟨a, b, h1, h0, h2, h3⟩ := k
  simp [h1, h0, RCu.len h3, Nat.succ_mul, Nat.add_comm]
end

mutual
theorem RC.one {g : Gh} : ∀ {v : V} {cs : List Value}, RC g v cs → ∀ c ∈ cs, c.oneCell' = true
 | .bool _, _, k => by simp only [RC] at k; simp [k, Value.oneCell']
 | .int _ _, _, k => by simp only [RC] at k; simp [k, Value.oneCell']
 | .str _, _, k => by simp only [RC] at k; simp [k, Value.oneCell']
 | .nilp, _, k => by simp only [RC] at k; simp [k, Value.oneCell']
 | .ptr _ _ _, _, k => by simp only [RC] at k; obtain ⟨p, h1, h2⟩ := k; simp [h2, Value.oneCell']
 | .cptr _, _, k => by simp only [RC] at k; obtain ⟨a, c, h1, h2, h3, h4⟩ := k; simp [h2, Value.oneCell']
 | .nils, _, k => by simp only [RC] at k; simp [k, Value.oneCell']
 | .sl _ _ _, _, k => by simp only [RC] at k; obtain ⟨a, cap, h1, h2⟩ := k; simp [h1, Value.oneCell']
 | .slo _ _ _ _ _ _ _, _, k => by simp only [RC] at k; obtain ⟨p, h1, a, c, h2, h3⟩ := k; simp [h2, Value.oneCell']
 | .fn _ _ _, _, k => by simp only [RC] at k; obtain ⟨a, b, h1, h2, h3⟩ := k; simp [h1, Value.oneCell']
 | .nilfn, _, k => by simp only [RC] at k; simp [k, Value.oneCell']
 | .ifc _ _, _, k => by simp only [RC] at k; obtain ⟨x, h1, h2, h3⟩ := k; simp [h1, Value.oneCell']
 | .nili, _, k => by simp only [RC] at k; simp [k, Value.oneCell']
 | .st _, _, k => by simp only [RC] at k; exact RCs.one k
 | .arr _ _, _, k => by simp only [RC] at k; exact RCu.one k
 | .tup _, _, k => by simp only [RC] at k
 | .map _, _, k => by simp only [RC] at k; obtain ⟨p, h1, h2⟩ := k; simp [h2, Value.oneCell']
 | .nilmap, _, k => by simp only [RC] at k; simp [k, Value.oneCell']
 | .undef, _, k => by simp only [RC] at k
theorem RCs.one {g : Gh} : ∀ {vs : List V} {cs : List Value}, RCs g vs cs → ∀ c ∈ cs, c.oneCell' = true
 | [], _, k => by simp only [RCs] at k; simp [k]
 | _ :: _, _, k => by
  simp only [RCs] at k
  obtain ⟨a, b, h1, h2, h3⟩ := k
  subst h1
  intro c hc
  rcases List.mem_append.1 hc with h | h
  ·exact RC.one h2 c h
  ·exact RCs.one h3 c h
theorem RCu.one {g : Gh} {e : Nat} : ∀ {vs : List V} {cs : List Value}, RCu g e vs cs → ∀ c ∈ cs, c.oneCell' = true
 | [], _, k => by simp only [RCu] at k; simp [k]
 | _ :: _, _, k => by
  simp only [RCu] at k
  obtain ⟨a, b, h1, h0, h2, h3⟩ := k
  subst h1
  intro c hc
  rcases List.mem_append.1 hc with h | h
  ·exact RC.one h2 c h
  ·exact RCu.one h3 c h
end

theorem RV.val {v : V} {x : Value} (h : RV g v x) (hu : v ≠ .undef) (ht : ∀ vs, v ≠ .tup vs) : v.isAgg = valAgg x ∧ RC g v x.cells.toList := by
 cases v <;> first
  | exact absurd rfl hu
  | exact absurd rfl (ht _)
  | exact h

/-- A leaf is one cell, which is the value. -/
theorem RC.leaf {v : V} {x : Value} (ha : v.isAgg = false) (h : RC g v [x]) : RV g v x := by
 have h1 := RC.one h x (by simp)
 have : valAgg x = false := by cases x <;> simp_all [valAgg, Value.oneCell']
 refine RV.of (ha.trans this.symm) ?_
 have hc : x.cells.toList = [x] := by cases x <;> simp_all [Value.cells, valAgg]
 rw [hc]; exact h

theorem RC.agg {g : Gh} {v : V} {cs : List Value} (ha : v.isAgg = true) (h : RC g v cs) : RV g v (.agg cs.toArray) :=
 RV.of (by simpa [valAgg] using ha) (by simpa [Value.cells] using h)

/-- The part of a tree at a path. -/
def V.at : V → List Nat → Option V
 | v, [] => some v
 | .st vs, k :: p => match vs[k]? with | some u => u.at p | none => none
 | .arr _ vs, k :: p => match vs[k]? with | some u => u.at p | none => none
 | _, _ :: _ => none

def V.offOf : V → List Nat → Nat → Nat
 | _, [], acc => acc
 | .st vs, k :: p, acc => (vs.getD k .undef).offOf p (acc + flenL (vs.take k))
 | .arr e vs, k :: p, acc => (vs.getD k .undef).offOf p (acc + k * e)
 | _, _ :: _, acc => acc

def V.setAt : V → List Nat → V → V
 | _, [], u => u
 | .st vs, k :: p, u => .st (vs.set k ((vs.getD k .undef).setAt p u))
 | .arr e vs, k :: p, u => .arr e (vs.set k ((vs.getD k .undef).setAt p u))
 | v, _ :: _, _ => v

theorem RCs.get {g : Gh} : ∀ {vs : List V} {cs : List Value} {k : Nat} {u : V}, RCs g vs cs → vs[k]? = some u →
  ∃ pre c post, cs = pre ++ c ++ post ∧ pre.length = flenL (vs.take k) ∧ RC g u c ∧
   ∀ u' c', RC g u' c' → RCs g (vs.set k u') (pre ++ c' ++ post)
 | [], _, _, _, _, h => by simp at h
 | v :: vs, cs, 0, u, k, h => by
  simp only [RCs] at k
  obtain ⟨a, b, h1, h2, h3⟩ := k
  simp at h; subst h
  refine ⟨[], a, b, by simpa using h1, by simp [flenL], h2, fun u' c' hc => ?_⟩
  simp only [List.set_cons_zero, RCs]
  exact ⟨c', b, by simp, hc, h3⟩
 | v :: vs, cs, k + 1, u, hk, h => by
  simp only [RCs] at hk
  obtain ⟨a, b, h1, h2, h3⟩ := hk
  obtain ⟨pre, c, post, e1, e2, e3, e4⟩ := RCs.get h3 (k := k) (by simpa using h)
  refine ⟨a ++ pre, c, post, by simp [h1, e1], by simp [flenL, e2, RC.len h2], e3, fun u' c' hc => ?_⟩
  simp only [List.set_cons_succ, RCs]
  exact ⟨a, pre ++ c' ++ post, by simp, h2, e4 u' c' hc⟩

theorem RCu.get {g : Gh} {e : Nat} : ∀ {vs : List V} {cs : List Value} {k : Nat} {u : V}, RCu g e vs cs → vs[k]? = some u →
  ∃ pre c post, cs = pre ++ c ++ post ∧ pre.length = k * e ∧ c.length = e ∧ RC g u c ∧
   ∀ u' c', RC g u' c' → c'.length = e → RCu g e (vs.set k u') (pre ++ c' ++ post)
 | [], _, _, _, _, h => by simp at h
 | v :: vs, cs, 0, u, k, h => by
  simp only [RCu] at k
  obtain ⟨a, b, h1, h0, h2, h3⟩ := k
  simp at h; subst h
  refine ⟨[], a, b, by simpa using h1, by simp, h0, h2, fun u' c' hc hl => ?_⟩
  simp only [List.set_cons_zero, RCu]
  exact ⟨c', b, by simp, hl, hc, h3⟩
 | v :: vs, cs, k + 1, u, hk, h => by
  simp only [RCu] at hk
  obtain ⟨a, b, h1, h0, h2, h3⟩ := hk
  obtain ⟨pre, c, post, e1, e2, el, e3, e4⟩ := RCu.get h3 (k := k) (by simpa using h)
  refine ⟨a ++ pre, c, post, by simp [h1, e1], by simp [e2, h0, Nat.succ_mul, Nat.add_comm], el, e3, fun u' c' hc hl => ?_⟩
  simp only [List.set_cons_succ, RCu]
  exact ⟨a, pre ++ c' ++ post, by simp, h0, h2, e4 u' c' hc hl⟩

/-- The cells of the part at a path, and what becomes of the whole if they are written. -/
theorem RC.at {g : Gh} : ∀ {path : List Nat} {v u : V} {cs : List Value} {acc : Nat}, RC g v cs → v.at path = some u →
  ∃ pre c post, cs = pre ++ c ++ post ∧ acc + pre.length = v.offOf path acc ∧ RC g u c ∧
   ∀ u' c', RC g u' c' → c'.length = c.length → RC g (v.setAt path u') (pre ++ c' ++ post)
 | [], v, u, cs, acc, h, hu => by
  simp only [V.at, Option.some.injEq] at hu; subst hu
  exact ⟨[], cs, [], by simp, by simp [V.offOf], h, fun u' c' hc _ => by simpa [V.setAt] using hc⟩
 | k :: p, v, u, cs, acc, h, hu => by
  cases v with
  | st vs =>
   simp only [V.at] at hu
   cases hk : vs[k]? with
   | none => simp [hk] at hu
   | some x =>
    simp only [hk] at hu
    simp only [RC] at h
    obtain ⟨pre, c, post, e1, e2, e3, e4⟩ := RCs.get h hk
    obtain ⟨pre', c', post', f1, f2, f3, f4⟩ := RC.at (path := p) (acc := acc + flenL (vs.take k)) e3 hu
    have hg : vs.getD k .undef = x := by simp [List.getD, hk]
    refine ⟨pre ++ pre', c', post' ++ post, by simp [e1, f1], by simp only [V.offOf, hg, List.length_append]; omega, f3, fun u' d hd hl => ?_⟩
    simp only [V.setAt, RC, hg]
    have := e4 _ _ (f4 u' d hd hl)
    simpa using this
  | arr e vs =>
   simp only [V.at] at hu
   cases hk : vs[k]? with
   | none => simp [hk] at hu
   | some x =>
    simp only [hk] at hu
    simp only [RC] at h
    obtain ⟨pre, c, post, e1, e2, el, e3, e4⟩ := RCu.get h hk
    obtain ⟨pre', c', post', f1, f2, f3, f4⟩ := RC.at (path := p) (acc := acc + k * e) e3 hu
    have hg : vs.getD k .undef = x := by simp [List.getD, hk]
    refine ⟨pre ++ pre', c', post' ++ post, by simp [e1, f1], by simp only [V.offOf, hg, List.length_append]; omega, f3, fun u' d hd hl => ?_⟩
    simp only [V.setAt, RC, hg]
    have := e4 _ _ (f4 u' d hd hl) (by rw [← el, f1]; simp [hl])
    simpa using this
  | _ => simp [V.at] at hu

end
inductive AObj where
 | cells (v : V)
 | buf (e : Nat) (vs : List V)
 | tail
 | map (es : List (V × V))
 | dead
 deriving Inhabited

/-- Does the object's block belong to it? -/
def Place.own (p : Place) : AObj → Bool
 | .dead => false
 | .tail => !p.vac
 | .buf _ _ => !p.vac
 | _ => true

def REs (g : Gh) : List (V × V) → List MapEntry → Prop
 | [], l => l = []
 | kv :: r, l => ∃ e es, l = e :: es ∧ RV g kv.1 e.key ∧ RV g kv.2 e.val ∧ REs g r es

theorem REs.mono {g g' : Gh} (h : g.le g') : ∀ {es : List (V × V)} {l : List MapEntry}, REs g es l → REs g' es l
 | [], _, k => k
 | _ :: _, _, k => by
  obtain ⟨e, es, h1, h2, h3, h4⟩ := k
  exact ⟨e, es, h1, h2.mono h, h3.mono h, REs.mono h h4⟩

def ORel (g : Gh) (w : World) (p : Place) : AObj → Prop
 | .cells v => ∃ cs ty, w.heap[p.block]? = some (.cells cs ty (0, 0)) ∧ (∃ junk, cs.toList = (cs.toList.take (flen v)) ++ junk ∧ RC g v (cs.toList.take (flen v))) ∧ ∀ i, g.I p.block i = none
 | .buf e vs => (p.vac = true ∧ vs = []) ∨ p.vac = false ∧ ∃ cs ty, w.heap[p.block]? = some (.cells cs ty (0, 0)) ∧ (∃ c junk, cs.toList = c ++ junk ∧ RCu g e vs c) ∧ cs.size = p.size ∧ ∀ i, g.I p.block i = none
 | .tail => p.vac = true ∨ ∃ cs ty, w.heap[p.block]? = some (.cells cs ty (0, 0)) ∧ cs.size = p.size ∧ ∀ i, p.front ≤ i → g.I p.block i = none
 | .map es => ∃ ents clock, w.heap[p.block]? = some (.map ents clock) ∧ REs g es ents.toList ∧ (∀ e ∈ ents.toList, e.born < clock)
 | .dead => True

theorem ORel.keep {g g' : Gh} {p : Place} {ob : AObj} (h : ORel g w p ob) (le : g.le g') (hw : w'.heap[p.block]? = w.heap[p.block]?)
  (hi : ∀ i, g'.I p.block i = g.I p.block i) : ORel g' w' p ob := by
 cases ob with
 | cells v => obtain ⟨cs, ty, h1, ⟨j, h2, h2'⟩, h3⟩ := h; exact ⟨cs, ty, hw ▸ h1, ⟨j, h2, h2'.mono le⟩, fun i => (hi i).trans (h3 i)⟩
 | buf e vs =>
  rcases h with h | ⟨h0, cs, ty, h1, ⟨c, j, h2, h2'⟩, h3⟩
  ·exact .inl h
  ·exact .inr ⟨h0, cs, ty, hw ▸ h1, ⟨c, j, h2, h2'.mono le⟩, h3.1, fun i => (hi i).trans (h3.2 i)⟩
 | tail =>
  rcases h with h | ⟨cs, ty, h1, h2, h3⟩
  ·exact .inl h
  ·exact .inr ⟨cs, ty, hw ▸ h1, h2, fun i hp => (hi i).trans (h3 i hp)⟩
 | map es => obtain ⟨e, c, h1, h2, h3⟩ := h; exact ⟨e, c, hw ▸ h1, h2.mono le, h3⟩
 | dead => trivial

theorem ORel.inb {g : Gh} {p : Place} {ob : AObj} (h : ORel g w p ob) (hl : p.own ob = true) : p.block < w.heap.size := by
 cases ob with
 | cells v => obtain ⟨cs, ty, h1, _⟩ := h; exact (Array.getElem?_eq_some_iff.1 h1).1
 | buf e vs =>
  rcases h with h | ⟨_, cs, ty, h1, _⟩
  ·simp [Place.own, h.1] at hl
  ·exact (Array.getElem?_eq_some_iff.1 h1).1
 | tail =>
  rcases h with h | ⟨cs, ty, h1, _⟩
  ·simp [Place.own, h] at hl
  ·exact (Array.getElem?_eq_some_iff.1 h1).1
 | map es => obtain ⟨cs, ty, h1, _⟩ := h; exact (Array.getElem?_eq_some_iff.1 h1).1
 | dead => simp [Place.own] at hl

theorem ORel.free {g g' : Gh} {p : Place} {ob : AObj} (h : ORel g w p ob) (hl : p.own ob = false) : ORel g' w' p ob := by
 cases ob with
 | cells v => simp [Place.own] at hl
 | buf e vs =>
  have hv : p.vac = true := by simpa [Place.own] using hl
  rcases h with h | ⟨h0, _⟩
  ·exact .inl h
  ·rw [hv] at h0; cases h0
 | tail => exact .inl (by simpa [Place.own] using hl)
 | map es => simp [Place.own] at hl
 | dead => trivial

structure HR (g : Gh) (H : List AObj) (w : World) : Prop where
 agree : ∀ b i x, g.I b i = some x → w.cell? ⟨b, i, none⟩ = some x
 len : g.ρ.length = H.length
 obj : ∀ (o : Nat) p ob, g.ρ[o]? = some p → H[o]? = some ob → ORel g w p ob
 inj : ∀ (o o' : Nat) p p' ob ob', g.ρ[o]? = some p → g.ρ[o']? = some p' → H[o]? = some ob → H[o']? = some ob' → p.own ob = true → p'.own ob' = true → p.block = p'.block → o = o'
 gl : ∀ (i : Nat) n, glL[i]? = some n → g.I glB i = some (.int .u32 n)

/-- The blocks that may be written. -/
def Lv (g : Gh) (H : List AObj) (b : Nat) : Prop := ∃ (o : Nat) (p : Place) (ob : AObj), g.ρ[o]? = some p ∧ H[o]? = some ob ∧ p.own ob = true ∧ p.block = b

structure Ev (g : Gh) (H : List AObj) (w : World) (g' : Gh) (H' : List AObj) (w' : World) : Prop where
 le : g.le g'
 os : w'.os = w.os
 tape : w'.tape = w.tape
 output : w'.output = w.output
 size : w.heap.size ≤ w'.heap.size
 drawn : w.drawn ≤ w'.drawn
 keep : ∀ b, b < w.heap.size → ¬ Lv g H b → w'.heap[b]? = w.heap[b]?
 imm : ∀ b i, b < w.heap.size → ¬ Lv g H b → g'.I b i = g.I b i
 live : ∀ b, Lv g' H' b → Lv g H b ∨ w.heap.size ≤ b

theorem Ev.refl (g : Gh) (H : List AObj) (w : World) : Ev g H w g H w := ⟨.refl g, rfl, rfl, rfl, Nat.le_refl _, Nat.le_refl _, fun _ _ _ => rfl, fun _ _ _ _ => rfl, fun _ h => .inl h⟩

theorem Ev.trans {g g' g'' : Gh} {H H' H'' : List AObj} {w w' w'' : World} (h : Ev g H w g' H' w') (k : Ev g' H' w' g'' H'' w'') : Ev g H w g'' H'' w'' where
 le := h.le.trans k.le
 os := k.os.trans h.os
 tape := k.tape.trans h.tape
 output := k.output.trans h.output
 size := Nat.le_trans h.size k.size
 drawn := Nat.le_trans h.drawn k.drawn
 keep b hb hn := by
  have : ¬ Lv g' H' b := fun hl => by rcases h.live b hl with x | x; exact hn x; omega
  rw [k.keep b (by have := h.size; omega) this, h.keep b hb hn]
 imm b i hb hn := by
  have : ¬ Lv g' H' b := fun hl => by rcases h.live b hl with x | x; exact hn x; omega
  rw [k.imm b i (by have := h.size; omega) this, h.imm b i hb hn]
 live b hb := by
  rcases k.live b hb with x | x
  ·exact h.live b x
  ·exact .inr (by have := h.size; omega)

theorem HR.inb {g : Gh} {H : List AObj} {w : World} (h : HR g H w) {b : Nat} (hb : Lv g H b) : b < w.heap.size := by
 obtain ⟨o, p, ob, h1, h2, h3, rfl⟩ := hb
 exact (h.obj o p ob h1 h2).inb h3

theorem HR.fresh {g : Gh} {H : List AObj} (h : HR g H w) {b : Nat} (hb : w.heap.size ≤ b) (i : Nat) : g.I b i = none := by
 cases hx : g.I b i with
 | none => rfl
 | some x =>
  have := h.agree b i x hx
  simp [World.cell?, Array.getElem?_eq_none hb] at this

/-- A draw. -/
theorem HR.drew {g : Gh} {H : List AObj} (h : HR g H w) (hh : w'.heap = w.heap) : HR g H w' where
 agree b i x hx := by simpa only [World.cell?, hh] using h.agree b i x hx
 len := h.len
 obj o p ob h1 h2 := (h.obj o p ob h1 h2).keep (.refl g) (by rw [hh]) (fun _ => rfl)
 inj := h.inj
 gl := h.gl

theorem Ev.drew {g : Gh} {H : List AObj} (hh : w'.heap = w.heap) (h1 : w'.os = w.os) (h2 : w'.tape = w.tape) (h3 : w'.output = w.output) (h4 : w.drawn ≤ w'.drawn) : Ev g H w g H w' :=
 ⟨.refl g, h1, h2, h3, by rw [hh]; exact Nat.le_refl _, h4, fun _ _ _ => by rw [hh], fun _ _ _ _ => rfl, fun _ h => .inl h⟩

/-- Cells that never turn again, laid. -/
def Gh.put (g : Gh) (b lo : Nat) (cs : List Value) : Gh := { g with I := fun b' i => if b' = b ∧ lo ≤ i ∧ i < lo + cs.length then cs[i - lo]? else g.I b' i }

theorem Gh.put_le {g : Gh} {b : Nat} (h : ∀ i, lo ≤ i → g.I b i = none) : g.le (g.put b lo cs) where
 imm b' i x hx := by
  simp only [Gh.put]
  split
  ·rename_i hc
   rw [hc.1, h i hc.2.1] at hx
   cases hx
  ·exact hx
 pre _ _ h := h

theorem Gh.put_holds {g : Gh} {b : Nat} : (g.put b lo cs).holds ⟨b, lo, none⟩ cs := by
 intro i x hx
 have hl : i < cs.length := (List.getElem?_eq_some_iff.1 hx).1
 simp only [Gh.put]
 rw [if_pos ⟨trivial, Nat.le_add_right _ _, by omega⟩]
 rw [show lo + i - lo = i from by omega]
 exact hx

theorem heap_alloc_lt (w : World) (o : Obj) (k : Nat) (h : k < w.heap.size) : (w.alloc o).heap[k]? = w.heap[k]? := by
 show (w.heap.push o)[k]? = _
 rw [Array.getElem?_push, if_neg (by omega)]

theorem heap_alloc_eq (w : World) (o : Obj) : (w.alloc o).heap[w.heap.size]? = some o := by
 show (w.heap.push o)[w.heap.size]? = _
 simp

theorem size_alloc' (w : World) (o : Obj) : (w.alloc o).heap.size = w.heap.size + 1 := by
 show (w.heap.push o).size = _
 simp

theorem cell_alloc_lt (w : World) (o : Obj) (b i : Nat) (h : b < w.heap.size) : (w.alloc o).cell? ⟨b, i, none⟩ = w.cell? ⟨b, i, none⟩ := by
 simp only [World.cell?, heap_alloc_lt w o b h]

theorem HR.imm_lt {g : Gh} {H : List AObj} (h : HR g H w) {b : Nat} {x : Value} (hx : g.I b i = some x) : b < w.heap.size := by
 rcases Nat.lt_or_ge b w.heap.size with hb | hb
 ·exact hb
 ·rw [h.fresh hb] at hx; cases hx

/-- A new block that may be written. -/
theorem HR.alloc {g : Gh} {H : List AObj} {w : World} (h : HR g H w) (o : Obj) (ob : AObj) (p : Place) (hp : p.block = w.heap.size)
  (ho : ORel { g with ρ := g.ρ ++ [p] } (w.alloc o) p ob) : HR { g with ρ := g.ρ ++ [p] } (H ++ [ob]) (w.alloc o) where
 agree b i x hx := by rw [cell_alloc_lt w o b i (h.imm_lt hx)]; exact h.agree b i x hx
 gl := h.gl
 len := by simp [h.len]
 obj o' p' ob' h1 h2 := by
  have hle : g.le { g with ρ := g.ρ ++ [p] } := ⟨fun _ _ _ hx => hx, fun o q hq => by
   show (g.ρ ++ [p])[o]? = some q
   rw [List.getElem?_append_left (List.getElem?_eq_some_iff.1 hq).1]; exact hq⟩
  rcases Nat.lt_or_ge o' g.ρ.length with hl | hl
  ·have h1' : g.ρ[o']? = some p' := by rwa [List.getElem?_append_left hl] at h1
   have h2' : H[o']? = some ob' := by rwa [List.getElem?_append_left (h.len ▸ hl)] at h2
   cases hlive : p'.own ob' with
   | true =>
    have hb := (h.obj o' p' ob' h1' h2').inb hlive
    exact (h.obj o' p' ob' h1' h2').keep hle (heap_alloc_lt w o _ hb) (fun _ => rfl)
   | false =>
    exact (h.obj o' p' ob' h1' h2').free hlive
  ·have hlen : o' < (g.ρ ++ [p]).length := (List.getElem?_eq_some_iff.1 h1).1
   have : o' = g.ρ.length := by simp at hlen; omega
   subst this
   rw [List.getElem?_append_right (Nat.le_refl _)] at h1
   rw [h.len, List.getElem?_append_right (Nat.le_refl _)] at h2
   simp at h1 h2
   subst h1 h2
   exact ho
 inj a a' q q' ob1 ob2 h1 h1' h2 h2' l1 l2 e := by
  have key : ∀ (a : Nat) (q : Place) (ob1 : AObj), (g.ρ ++ [p])[a]? = some q → (H ++ [ob])[a]? = some ob1 → q.own ob1 = true → (a = g.ρ.length ∧ q.block = w.heap.size) ∨ (g.ρ[a]? = some q ∧ H[a]? = some ob1 ∧ q.block < w.heap.size) := by
   intro a q ob1 h1 h2 l1
   rcases Nat.lt_or_ge a g.ρ.length with hl | hl
   ·have h1' : g.ρ[a]? = some q := by rwa [List.getElem?_append_left hl] at h1
    have h2' : H[a]? = some ob1 := by rwa [List.getElem?_append_left (h.len ▸ hl)] at h2
    exact .inr ⟨h1', h2', (h.obj a q ob1 h1' h2').inb l1⟩
   ·have hlen : a < (g.ρ ++ [p]).length := (List.getElem?_eq_some_iff.1 h1).1
    have : a = g.ρ.length := by simp at hlen; omega
    subst this
    rw [List.getElem?_append_right (Nat.le_refl _)] at h1
    simp at h1
    exact .inl ⟨rfl, by rw [← h1]; exact hp⟩
  rcases key a q ob1 h1 h2 l1 with ⟨x, y⟩ | ⟨x, y, z⟩ <;> rcases key a' q' ob2 h1' h2' l2 with ⟨x', y'⟩ | ⟨x', y', z'⟩
  ·omega
  ·omega
  ·omega
  ·exact h.inj a a' q q' ob1 ob2 x x' y y' l1 l2 e

theorem Gh.le_push (g : Gh) (p : Place) : g.le { g with ρ := g.ρ ++ [p] } :=
 ⟨fun _ _ _ hx => hx, fun o q hq => by
  show (g.ρ ++ [p])[o]? = some q
  rw [List.getElem?_append_left (List.getElem?_eq_some_iff.1 hq).1]; exact hq⟩

theorem Ev.alloc {g : Gh} {H : List AObj} {w : World} (h : HR g H w) (o : Obj) (ob : AObj) (p : Place) (hp : p.block = w.heap.size) :
  Ev g H w { g with ρ := g.ρ ++ [p] } (H ++ [ob]) (w.alloc o) where
 le := g.le_push p
 os := rfl
 tape := rfl
 output := rfl
 drawn := Nat.le_refl _
 size := by rw [size_alloc']; omega
 keep b hb _ := heap_alloc_lt w o b hb
 imm _ _ _ _ := rfl
 live b hb := by
  obtain ⟨a, q, ob1, h1, h2, l1, e⟩ := hb
  rcases Nat.lt_or_ge a g.ρ.length with hl | hl
  ·exact .inl ⟨a, q, ob1, by rwa [List.getElem?_append_left hl] at h1, by rwa [List.getElem?_append_left (h.len ▸ hl)] at h2, l1, e⟩
  ·have hlen : a < (g.ρ ++ [p]).length := (List.getElem?_eq_some_iff.1 h1).1
   have : a = g.ρ.length := by simp at hlen; omega
   subst this
   rw [List.getElem?_append_right (Nat.le_refl _)] at h1
   simp at h1
   exact .inr (by rw [← e, ← h1, hp]; exact Nat.le_refl _)

/-- A new block whose first cells never turn again. -/
theorem HR.lay {g : Gh} {H : List AObj} (h : HR g H w) (cs : Array Value) (ty : TypeId) (pre : List Value) (post : List Value) (hc : cs.toList = pre ++ post) :
  HR (g.put w.heap.size 0 pre) H (w.alloc (.cells cs ty)) where
 gl i n hn := (Gh.put_le (cs := pre) fun i _ => h.fresh (Nat.le_refl _) i).imm _ _ _ (h.gl i n hn)
 agree b i x hx := by
  simp only [Gh.put] at hx
  split at hx
  ·rename_i hcnd
   obtain ⟨rfl, _, hl⟩ := hcnd
   simp only [World.cell?, heap_alloc_eq]
   simp at hl hx ⊢
   have : cs.toList[i]? = some x := by rw [hc, List.getElem?_append_left hl]; exact hx
   simpa using this
  ·rw [cell_alloc_lt w _ b i (h.imm_lt hx)]; exact h.agree b i x hx
 len := h.len
 obj o p ob h1 h2 := by
  cases hlive : p.own ob with
  | false => exact (h.obj o p ob h1 h2).free hlive
  | true =>
   have hb := (h.obj o p ob h1 h2).inb hlive
   refine (h.obj o p ob h1 h2).keep (Gh.put_le fun i _ => h.fresh (Nat.le_refl _) i) (heap_alloc_lt w _ _ hb) (fun i => ?_)
   simp only [Gh.put]
   rw [if_neg (by omega)]
 inj := h.inj

theorem Ev.lay {g : Gh} {H : List AObj} (h : HR g H w) (o : Obj) (pre : List Value) : Ev g H w (g.put w.heap.size 0 pre) H (w.alloc o) where
 le := Gh.put_le fun i _ => h.fresh (Nat.le_refl _) i
 os := rfl
 tape := rfl
 output := rfl
 drawn := Nat.le_refl _
 size := by rw [size_alloc']; omega
 keep b hb _ := heap_alloc_lt w o b hb
 imm b i hb _ := by simp only [Gh.put]; rw [if_neg (by omega)]
 live _ hb := .inl hb

/-- An object's block is written. -/
theorem HR.write {g : Gh} {H : List AObj} (h : HR g H w) {p : Place} {ob ob' : AObj} (hp : g.ρ[o]? = some p) (ho : H[o]? = some ob) (hl : p.own ob = true)
  (hI : ∀ i, g.I p.block i = none) (hk : ∀ b, b ≠ p.block → w'.heap[b]? = w.heap[b]?) (hn : ORel g w' p ob') : HR g (H.set o ob') w' where
 gl := h.gl
 agree b i x hx := by
  have hb : b ≠ p.block := fun e => by rw [e, hI] at hx; cases hx
  simpa only [World.cell?, hk b hb] using h.agree b i x hx
 len := by simp [h.len]
 obj a q ob1 h1 h2 := by
  by_cases e : a = o
  ·subst e
   have : q = p := by rw [hp] at h1; exact (Option.some.inj h1).symm
   subst this
   rw [List.getElem?_set_self (List.getElem?_eq_some_iff.1 ho).1] at h2
   cases h2
   exact hn
  ·rw [List.getElem?_set_ne (Ne.symm e)] at h2
   cases hlive : q.own ob1 with
   | false => exact (h.obj a q ob1 h1 h2).free hlive
   | true =>
    have hb : q.block ≠ p.block := fun eb => e (h.inj a o q p ob1 ob h1 hp h2 ho hlive hl eb)
    exact (h.obj a q ob1 h1 h2).keep (.refl g) (hk _ hb) (fun _ => rfl)
 inj a a' q q' ob1 ob2 h1 h1' h2 h2' l1 l2 e := by
  have key : ∀ (a : Nat) (q : Place) (ob1 : AObj), g.ρ[a]? = some q → (H.set o ob')[a]? = some ob1 → q.own ob1 = true → ∃ ob2, H[a]? = some ob2 ∧ q.own ob2 = true := by
   intro a q ob1 h1 h2 l1
   by_cases ea : a = o
   ·subst ea
    rw [hp] at h1; cases h1
    exact ⟨ob, ho, hl⟩
   ·rw [List.getElem?_set_ne (Ne.symm ea)] at h2; exact ⟨ob1, h2, l1⟩
  obtain ⟨x, hx, lx⟩ := key a q ob1 h1 h2 l1
  obtain ⟨y, hy, ly⟩ := key a' q' ob2 h1' h2' l2
  exact h.inj a a' q q' x y h1 h1' hx hy lx ly e

theorem Ev.write {g : Gh} {H : List AObj} {p : Place} {ob ob' : AObj} (hp : g.ρ[o]? = some p) (ho : H[o]? = some ob) (hl : p.own ob = true)
  (hk : ∀ b, b ≠ p.block → w'.heap[b]? = w.heap[b]?) (h1 : w'.os = w.os) (h2 : w'.tape = w.tape) (h3 : w'.output = w.output) (h4 : w.heap.size ≤ w'.heap.size) (h5 : w.drawn ≤ w'.drawn) : Ev g H w g (H.set o ob') w' where
 le := .refl g
 os := h1
 tape := h2
 output := h3
 size := h4
 drawn := h5
 keep b _ hn := hk b fun e => hn ⟨o, p, ob, hp, ho, hl, e.symm⟩
 imm _ _ _ _ := rfl
 live b hb := by
  obtain ⟨a, q, ob1, h1, h2, l1, e⟩ := hb
  by_cases ea : a = o
  ·subst ea
   rw [hp] at h1; cases h1
   exact .inl ⟨a, p, ob, hp, ho, hl, e⟩
  ·rw [List.getElem?_set_ne (Ne.symm ea)] at h2
   exact .inl ⟨a, q, ob1, h1, h2, l1, e⟩

/-- An object is no longer spoken of. -/
theorem HR.kill {g : Gh} {H : List AObj} (h : HR g H w) (o : Nat) : HR g (H.set o .dead) w where
 gl := h.gl
 agree := h.agree
 len := by simp [h.len]
 obj a q ob1 h1 h2 := by
  by_cases e : a = o
  ·subst e
   have hlt : a < (H.set a AObj.dead).length := (List.getElem?_eq_some_iff.1 h2).1
   rw [List.getElem?_set_self (by simpa using hlt)] at h2
   cases h2
   trivial
  ·rw [List.getElem?_set_ne (Ne.symm e)] at h2
   exact h.obj a q ob1 h1 h2
 inj a a' q q' ob1 ob2 h1 h1' h2 h2' l1 l2 e := by
  have key : ∀ (a : Nat) (q : Place) (ob1 : AObj), (H.set o .dead)[a]? = some ob1 → q.own ob1 = true → H[a]? = some ob1 := by
   intro a q ob1 h2 l1
   by_cases ea : a = o
   ·subst ea
    have hlt : a < (H.set a AObj.dead).length := (List.getElem?_eq_some_iff.1 h2).1
    rw [List.getElem?_set_self (by simpa using hlt)] at h2
    cases h2
    simp [Place.own] at l1
   ·rwa [List.getElem?_set_ne (Ne.symm ea)] at h2
  exact h.inj a a' q q' ob1 ob2 h1 h1' (key a q ob1 h2 l1) (key a' q' ob2 h2' l2) l1 l2 e

theorem Ev.kill {g : Gh} {H : List AObj} (o : Nat) : Ev g H w g (H.set o .dead) w where
 le := .refl g
 os := rfl
 tape := rfl
 output := rfl
 drawn := Nat.le_refl _
 size := Nat.le_refl _
 keep _ _ _ := rfl
 imm _ _ _ _ := rfl
 live b hb := by
  obtain ⟨a, q, ob1, h1, h2, l1, e⟩ := hb
  by_cases ea : a = o
  ·subst ea
   have hlt : a < (H.set a AObj.dead).length := (List.getElem?_eq_some_iff.1 h2).1
   rw [List.getElem?_set_self (by simpa using hlt)] at h2
   cases h2
   simp [Place.own] at l1
  ·rw [List.getElem?_set_ne (Ne.symm ea)] at h2
   exact .inl ⟨a, q, ob1, h1, h2, l1, e⟩

/-- The cells behind a view's end are written, and never turn again. -/
theorem HR.extend {g : Gh} {H : List AObj} (h : HR g H w) {p : Place} (hp : g.ρ[o]? = some p) (ho : H[o]? = some .tail) (hv : p.vac = false)
  {cs : Array Value} {new : List Value} (hw : w.heap[p.block]? = some (.cells cs ty (0, 0))) (hfit : p.front + new.length ≤ cs.size)
  (hw' : w' = w.setRow p.block (cs.toList.take p.front ++ new ++ cs.toList.drop (p.front + new.length)).toArray) :
  HR { (g.put p.block p.front new) with ρ := g.ρ ++ [⟨p.block, p.front + new.length, p.size, false⟩] } (H.set o .dead ++ [.tail]) w' := by
 subst hw'
 have hown : p.own .tail = true := by simp [Place.own, hv]
 have hI : ∀ i, p.front ≤ i → g.I p.block i = none := by
  rcases h.obj o p _ hp ho with hx | ⟨_, _, _, _, hi⟩
  ·rw [hv] at hx; cases hx
  ·exact hi
 have hsz : cs.size = p.size := by
  rcases h.obj o p _ hp ho with hx | ⟨cs', ty', h1, h2, _⟩
  ·rw [hv] at hx; cases hx
  ·rw [hw] at h1; cases h1; exact h2
 have hk : ∀ b, b ≠ p.block → (w.setRow p.block (cs.toList.take p.front ++ new ++ cs.toList.drop (p.front + new.length)).toArray).heap[b]? = w.heap[b]? := fun b hb => setRow_other w p.block b _ hb
 have hs := setRow_heap w p.block cs (cs.toList.take p.front ++ new ++ cs.toList.drop (p.front + new.length)).toArray ty (0, 0) hw
 have hle : g.le { (g.put p.block p.front new) with ρ := g.ρ ++ [⟨p.block, p.front + new.length, p.size, false⟩] } :=
  (Gh.put_le (cs := new) hI).trans (Gh.le_push (g.put p.block p.front new) _)
 have hol : o < g.ρ.length := (List.getElem?_eq_some_iff.1 hp).1
 have hfs : p.front ≤ cs.size := by omega
 refine ⟨?_, by simp [h.len], ?_, ?_, fun i n hn => hle.imm _ _ _ (h.gl i n hn)⟩
 ·intro b i x hx
  simp only [Gh.put] at hx
  split at hx
  ·rename_i hc
   obtain ⟨rfl, h1, h2⟩ := hc
   simp only [World.cell?, hs]
   simp only [Option.isSome_none, Bool.false_eq_true, if_false, List.getElem?_toArray]
   have l1 : (cs.toList.take p.front).length = p.front := by simp; omega
   rw [List.append_assoc, List.getElem?_append_right (by omega), l1, List.getElem?_append_left (by omega)]
   exact hx
  ·rename_i hc
   have old := h.agree b i x hx
   by_cases hb : b = p.block
   ·subst hb
    have hlt : i < p.front := by
     rcases Nat.lt_or_ge i p.front with hh | hh
     ·exact hh
     ·rw [hI i hh] at hx; cases hx
    simp only [World.cell?, hs, hw] at old ⊢
    simp only [Option.isSome_none, Bool.false_eq_true, if_false, List.getElem?_toArray] at old ⊢
    rw [List.append_assoc, List.getElem?_append_left (by simp; omega), List.getElem?_take_of_lt hlt]
    simpa using old
   ·simpa only [World.cell?, hk b hb] using old
 ·intro a q ob1 h1 h2
  rcases Nat.lt_or_ge a g.ρ.length with hl | hl
  ·have h1' : g.ρ[a]? = some q := by rwa [List.getElem?_append_left hl] at h1
   rw [List.getElem?_append_left (by simp [← h.len]; exact hl)] at h2
   by_cases e : a = o
   ·subst e
    rw [List.getElem?_set_self (h.len ▸ hl)] at h2
    cases h2; trivial
   ·rw [List.getElem?_set_ne (Ne.symm e)] at h2
    cases hlive : q.own ob1 with
    | false => exact (h.obj a q ob1 h1' h2).free hlive
    | true =>
     have hb : q.block ≠ p.block := fun eb => e (h.inj a o q p ob1 .tail h1' hp h2 ho hlive hown eb)
     refine (h.obj a q ob1 h1' h2).keep hle (hk _ hb) (fun i => ?_)
     simp only [Gh.put]
     rw [if_neg (fun hc => hb hc.1)]
  ·have hlen : a < (g.ρ ++ [(⟨p.block, p.front + new.length, p.size, false⟩ : Place)]).length := (List.getElem?_eq_some_iff.1 h1).1
   have : a = g.ρ.length := by simp at hlen; omega
   subst this
   rw [List.getElem?_append_right (Nat.le_refl _)] at h1
   rw [List.getElem?_append_right (by simp [h.len])] at h2
   simp [h.len] at h1 h2
   subst h1 h2
   refine .inr ⟨_, ty, hs, ?_, fun i hi => ?_⟩
   ·simp; omega
   ·have hi' : p.front + new.length ≤ i := hi
    simp only [Gh.put]
    rw [if_neg (by omega)]
    exact hI i (by omega)
 ·intro a a' q q' ob1 ob2 h1 h1' h2 h2' l1 l2 e
  have key : ∀ (a : Nat) (q : Place) (ob1 : AObj), (g.ρ ++ [(⟨p.block, p.front + new.length, p.size, false⟩ : Place)])[a]? = some q → (H.set o .dead ++ [.tail])[a]? = some ob1 → q.own ob1 = true →
    (a = g.ρ.length ∧ q.block = p.block) ∨ (g.ρ[a]? = some q ∧ H[a]? = some ob1 ∧ q.block ≠ p.block) := by
   intro a q ob1 h1 h2 l1
   rcases Nat.lt_or_ge a g.ρ.length with hl | hl
   ·have h1' : g.ρ[a]? = some q := by rwa [List.getElem?_append_left hl] at h1
    rw [List.getElem?_append_left (by simp [← h.len]; exact hl)] at h2
    by_cases e : a = o
    ·subst e
     rw [List.getElem?_set_self (h.len ▸ hl)] at h2
     cases h2
     simp [Place.own] at l1
    ·rw [List.getElem?_set_ne (Ne.symm e)] at h2
     exact .inr ⟨h1', h2, fun eb => e (h.inj a o q p ob1 .tail h1' hp h2 ho l1 hown eb)⟩
   ·have hlen : a < (g.ρ ++ [(⟨p.block, p.front + new.length, p.size, false⟩ : Place)]).length := (List.getElem?_eq_some_iff.1 h1).1
    have : a = g.ρ.length := by simp at hlen; omega
    subst this
    rw [List.getElem?_append_right (Nat.le_refl _)] at h1
    simp at h1
    exact .inl ⟨rfl, by rw [← h1]⟩
  rcases key a q ob1 h1 h2 l1 with ⟨x, y⟩ | ⟨x, y, z⟩ <;> rcases key a' q' ob2 h1' h2' l2 with ⟨x', y'⟩ | ⟨x', y', z'⟩
  ·omega
  ·exact absurd (e ▸ y) z'
  ·exact absurd (e ▸ y') z
  ·exact h.inj a a' q q' ob1 ob2 x x' y y' l1 l2 e

theorem Ev.extend {g : Gh} {H : List AObj} (h : HR g H w) {p : Place} (hp : g.ρ[o]? = some p) (ho : H[o]? = some .tail) (hv : p.vac = false)
  {new : List Value} {row : Array Value} (hw' : w' = w.setRow p.block row) :
  Ev g H w { (g.put p.block p.front new) with ρ := g.ρ ++ [⟨p.block, p.front + new.length, p.size, false⟩] } (H.set o .dead ++ [.tail]) w' := by
 subst hw'
 have hown : p.own .tail = true := by simp [Place.own, hv]
 have hI : ∀ i, p.front ≤ i → g.I p.block i = none := by
  rcases h.obj o p _ hp ho with hx | ⟨_, _, _, _, hi⟩
  ·rw [hv] at hx; cases hx
  ·exact hi
 have hlv : Lv g H p.block := ⟨o, p, .tail, hp, ho, hown, rfl⟩
 refine ⟨(Gh.put_le (cs := new) hI).trans (Gh.le_push (g.put p.block p.front new) _), rfl, rfl, rfl, by simp, Nat.le_refl _, ?_, ?_, ?_⟩
 ·intro b _ hn; exact setRow_other w p.block b _ fun e => hn (e ▸ hlv)
 ·intro b i _ hn
  simp only [Gh.put]
  rw [if_neg (fun hc : b = p.block ∧ p.front ≤ i ∧ i < p.front + new.length => hn (hc.1 ▸ hlv))]
 ·intro b hb
  obtain ⟨a, q, ob1, h1, h2, l1, e⟩ := hb
  rcases Nat.lt_or_ge a g.ρ.length with hl | hl
  ·have h1' : g.ρ[a]? = some q := by rwa [List.getElem?_append_left hl] at h1
   rw [List.getElem?_append_left (by simp [← h.len]; exact hl)] at h2
   by_cases ea : a = o
   ·subst ea
    rw [List.getElem?_set_self (h.len ▸ hl)] at h2
    cases h2
    simp [Place.own] at l1
   ·rw [List.getElem?_set_ne (Ne.symm ea)] at h2
    exact .inl ⟨a, q, ob1, h1', h2, l1, e⟩
  ·have hlen : a < (g.ρ ++ [(⟨p.block, p.front + new.length, p.size, false⟩ : Place)]).length := (List.getElem?_eq_some_iff.1 h1).1
   have : a = g.ρ.length := by simp at hlen; omega
   subst this
   rw [List.getElem?_append_right (Nat.le_refl _)] at h1
   simp at h1
   exact .inl (by rw [← e, ← h1]; exact hlv)
section
variable {g : Gh} {H H' : List AObj} {a : Act} {v : V}

structure St where
 env : List (Nat × V)
 H : List AObj

def look : List (Nat × V) → Nat → V
 | [], _ => .undef
 | (t', v) :: e, t => bif Nat.beq t t' then v else look e t

theorem look_cons (t' : Nat) (v : V) (e : List (Nat × V)) (t : Nat) : look ((t', v) :: e) t = if t = t' then v else look e t := by
 simp only [look, cond_eq_ite]
 by_cases h : t = t'
 ·subst h; simp
 ·simp [h]

def constV : Value → V
 | .bool b => .bool b
 | .int k n => .int k n
 | .string s => .str s
 | .pointer none => .nilp
 | .slice none 0 0 => .nils
 | .map none => .nilmap
 | .nilFunc => .nilfn
 | .nilIface => .nili
 | _ => .undef

theorem constV_rv (g : Gh) (x : Value) : RV g (constV x) x := by
 unfold constV
 split <;> first
  | trivial
  | exact ⟨rfl, by simp [RC, Value.cells]⟩

/-- A package-level variable. -/
def glV (b : Nat) : V := bif Nat.beq b glB then .cptr (.arr 1 (glL.map (V.int .u32))) else .undef
def ev (env : List (Nat × V)) : Operand → V
 | .tmp t => look env t
 | .const v => constV v
 | .global b => glV b
 | .func f => .fn f [] []

/-- The operation runs on, with a value and a world of which K holds. -/
def OkRes (P : Program) (K : Value → World → Prop) : Result Next → Prop
 | .ok (.value x) w' => K x w'
 | .ok .skip w' => K Go.undef w'
 | .ok (.enter f args) w' => Calls P f args w' fun e w'' => match e with
  | .returned x => K x w''
  | _ => False
 | _ => False

def OpS (P : Program) (o : Oper) (ev : Operand → V) (H : List AObj) (v : V) (H' : List AObj) : Prop :=
 ∀ g (rc : Operand → Value) w, (∀ x ∈ o.op.operands, RV g (ev x) (rc x)) → HR g H w →
  OkRes P (fun x w' => ∃ g', RV g' v x ∧ HR g' H' w' ∧ Ev g H w g' H' w') ((execOp rc o).run P w)

def putD : Option Tmp → V → List (Nat × V) → List (Nat × V)
 | none, _, e => e
 | some d, v, e => (d, v) :: e

/-- The temporaries are as the abstract environment says. -/
def REnv (g : Gh) (env : List (Nat × V)) (a : Act) : Prop := ∀ t, RV g (look env t) (a.tmps.getD t Go.undef)

theorem REnv.mono {g g' : Gh} (h : g.le g') {env : List (Nat × V)} {a : Act} (k : REnv g env a) : REnv g' env a := fun t => (k t).mono h

theorem glV_rv (hr : HR g H w) (b : Nat) : RV g (glV b) (.pointer (some ⟨b, 0, none⟩)) := by
 unfold glV
 cases e : Nat.beq b glB with
 | false => trivial
 | true =>
  obtain rfl : b = glB := Nat.eq_of_beq_eq_true e
  refine ⟨rfl, ⟨glB, 0, none⟩, glL.map (.int .u32), rfl, rfl, ?_, fun i x hx => ?_⟩
  ·show RCu g 1 _ _
   generalize glL = l
   induction l with
   | nil => rfl
   | cons n l ih => exact ⟨[.int .u32 n], _, rfl, rfl, rfl, ih⟩
  ·rw [List.getElem?_map] at hx
   cases hn : glL[i]? with
   | none => rw [hn] at hx; cases hx
   | some n =>
    rw [hn] at hx; cases hx
    rw [Nat.zero_add]; exact hr.gl i n hn
theorem REnv.ev {g : Gh} {env : List (Nat × V)} {a : Act} (k : REnv g env a) {H : List AObj} {w : World} (hr : HR g H w) (x : Operand) : RV g (ev env x) (a.eval x) := by
 cases x with
 | tmp t => exact k t
 | const v => exact constV_rv g v
 | global b => exact glV_rv hr b
 | func f => exact ⟨rfl, #[], #[], by simp [Act.eval, Value.cells], by simp [RVl], by simp [RVl]⟩

theorem getD_put (a : Act) (d t : Tmp) (x : Value) (hd : d < a.tmps.size) : (a.put (some d) x).tmps.getD t Go.undef = if t = d then x else a.tmps.getD t Go.undef := by
 simp only [Act.put, Array.getD_eq_getD_getElem?]
 by_cases h : t = d
 ·subst h; simp [hd]
 ·rw [Array.getElem?_setIfInBounds_ne (fun e => h e.symm)]; simp [h]

theorem size_put (a : Act) (d : Option Tmp) (x : Value) : (a.put d x).tmps.size = a.tmps.size := by
 cases d <;> simp [Act.put]

/-- The frame: its temporaries, how many there are, nothing deferred. -/
structure RAct (g : Gh) (n : Nat) (env : List (Nat × V)) (a : Act) : Prop where
 env : REnv g env a
 size : a.tmps.size = n
 defers : a.defers = []

def okDst (n : Nat) : Option Tmp → Bool
 | none => true
 | some d => d < n

theorem RAct.put {g : Gh} {n : Nat} {env : List (Nat × V)} {a : Act} (h : RAct g n env a) {dst : Option Tmp} (hd : okDst n dst = true) {v : V} {x : Value} (hv : RV g v x) :
  RAct g n (putD dst v env) (a.put dst x) := by
 refine ⟨fun t => ?_, by rw [size_put]; exact h.size, by cases dst <;> exact h.defers⟩
 cases dst with
 | none => exact h.env t
 | some d =>
  simp only [putD, look_cons]
  rw [getD_put a d t x (by rw [h.size]; simpa [okDst] using hd)]
  split
  ·exact hv
  ·exact h.env t

theorem RAct.mono {g g' : Gh} {n : Nat} {env : List (Nat × V)} {a : Act} (h : RAct g n env a) (le : g.le g') : RAct g' n env a := ⟨h.env.mono le, h.size, h.defers⟩

theorem upon_of_ok {o : Oper} {next : Act → World → Prop} {Q : Exit → Act → World → Prop} {K : Value → World → Prop} {r : Result Next}
  (h : OkRes P K r) (hk : ∀ x w', K x w' → next (a.put o.dst x) w') : o.upon P a next Q r := by
 cases r with
 | ok nx w' =>
  cases nx <;> simp only [OkRes] at h <;> try exact h.elim
  ·exact hk _ _ h
  ·exact hk _ _ h
  ·simp only [Oper.upon]
   refine Calls.mono h fun e w'' he => ?_
   cases e with
   | returned x => exact hk _ _ he
   | panicked c => exact he.elim
   | outgrown => exact he.elim
 | halt x w' => simp only [OkRes] at h

inductive Kd where
 | sil
 | qui
 | new
 | eff
 deriving DecidableEq

def guardDst (ops : Array Oper) (j : Nat) : Option Tmp := (ops[j]?).bind (·.dst)

/-- One operation. -/
inductive Stp (P : Program) (ops : Array Oper) (n : Nat) (o : Oper) (F : List AObj → Prop) : St → Kd → V → St → Prop where
 | sil (s : St) (v : V) (hg : o.guard = none) (hd : okDst n o.dst = true) (h : ∀ H, F H → OpS P o (ev s.env) H v H) : Stp P ops n o F s .sil v ⟨putD o.dst v s.env, s.H⟩
 | qui (s : St) (v : V) (hg : o.guard = none) (hd : okDst n o.dst = true) (h : ∀ X, OpS P o (ev s.env) (s.H ++ X) v (s.H ++ X)) : Stp P ops n o F s .qui v ⟨putD o.dst v s.env, s.H⟩
 | new (s : St) (v : V) (obs : List AObj) (hg : o.guard = none) (hd : okDst n o.dst = true) (h : OpS P o (ev s.env) s.H v (s.H ++ obs)) : Stp P ops n o F s .new v ⟨putD o.dst v s.env, s.H ++ obs⟩
 | eff (s : St) (v : V) (H' : List AObj) (hg : o.guard = none) (hd : okDst n o.dst = true) (h : OpS P o (ev s.env) s.H v H') : Stp P ops n o F s .eff v ⟨putD o.dst v s.env, H'⟩
 | gsil (s : St) (v : V) (j d : Nat) (want : Bool) (c : Prop) [Decidable c] (hg : o.guard = some (j, want)) (hj : guardDst ops j = some d) (hy : c → look s.env d = .bool want)
   (hn : ¬ c → look s.env d = .bool (!want) ∨ look s.env d = .tup []) (hd : okDst n o.dst = true)
   (h : c → ∀ H, F H → OpS P o (ev s.env) H v H) : Stp P ops n o F s .sil (if c then v else .tup []) ⟨putD o.dst (if c then v else .tup []) s.env, s.H⟩
 | gqui (s : St) (v : V) (j d : Nat) (want : Bool) (c : Prop) [Decidable c] (hg : o.guard = some (j, want)) (hj : guardDst ops j = some d) (hy : c → look s.env d = .bool want)
   (hn : ¬ c → look s.env d = .bool (!want) ∨ look s.env d = .tup []) (hd : okDst n o.dst = true)
   (h : c → ∀ X, OpS P o (ev s.env) (s.H ++ X) v (s.H ++ X)) : Stp P ops n o F s .qui (if c then v else .tup []) ⟨putD o.dst (if c then v else .tup []) s.env, s.H⟩
 | gyes (s : St) (v : V) (H' : List AObj) (j d : Nat) (want : Bool) (hg : o.guard = some (j, want)) (hj : guardDst ops j = some d) (hy : look s.env d = .bool want) (hd : okDst n o.dst = true)
   (h : OpS P o (ev s.env) s.H v H') : Stp P ops n o F s .eff v ⟨putD o.dst v s.env, H'⟩
 | gno (s : St) (j d : Nat) (want : Bool) (hg : o.guard = some (j, want)) (hj : guardDst ops j = some d) (hn : look s.env d = .bool (!want) ∨ look s.env d = .tup []) (hd : okDst n o.dst = true) :
   Stp P ops n o F s .sil (.tup []) ⟨putD o.dst (.tup []) s.env, s.H⟩

inductive Steps (P : Program) (ops : Array Oper) (n : Nat) (F : List AObj → Prop) : List Nat → St → List Kd → St → Prop where
 | nil (s : St) (hF : F s.H) : Steps P ops n F [] s [] s
 | cons {i : Nat} {rest : List Nat} {s s₁ s' : St} {k : Kd} {v : V} {ks : List Kd} {o : Oper} (ho : ops[i]? = some o) (hF : F s.H) (h : Stp P ops n o F s k v s₁) (t : Steps P ops n F rest s₁ ks s') :
   Steps P ops n F (i :: rest) s (k :: ks) s'

theorem yielded_of {b : Bool} (hj : guardDst ops j = some d) (h : a.tmps.getD d Go.undef = .bool b) : yielded ops a.tmps j = some b := by
 unfold guardDst at hj
 simp only [yielded, hj, Option.bind_some]
 rw [Array.getD_eq_getD_getElem?] at h
 cases hq : a.tmps[d]? with
 | none => rw [hq] at h; simp [Go.undef] at h
 | some x => rw [hq] at h; simp at h; subst h; rfl

theorem yielded_not {want : Bool} (hj : guardDst ops j = some d) (h : a.tmps.getD d Go.undef = .bool (!want) ∨ a.tmps.getD d Go.undef = .tuple #[]) : (yielded ops a.tmps j == some want) = false := by
 rcases h with h | h
 ·rw [yielded_of hj h]; cases want <;> rfl
 ·unfold guardDst at hj
  simp only [yielded, hj, Option.bind_some]
  rw [Array.getD_eq_getD_getElem?] at h
  cases hq : a.tmps[d]? with
  | none => rfl
  | some x => rw [hq] at h; simp at h; subst h; rfl

theorem RV.bool_val {b : Bool} {x : Value} (h : RV g (.bool b) x) : x = .bool b := by
 have hv2 : RC g (.bool b) x.cells.toList := h.2
 simp only [RC] at hv2
 have ha : valAgg x = false := h.1.symm
 cases x <;> simp_all [Value.cells, valAgg]

theorem RV.none_val {x : Value} (h : RV g (.tup []) x) : x = .tuple #[] := by
 obtain ⟨xs, e, h⟩ := h
 simp only [RVl] at h
 rw [e]
 congr 1
 exact Array.toList_eq_nil_iff.1 h

theorem RV.nothing (g : Gh) : RV g (.tup []) Go.undef := ⟨#[], rfl, by simp [RVl]⟩

/-- What one operation does, wherever its operands are as they were. -/
theorem Stp.run {n : Nat} {o : Oper} {F : List AObj → Prop} {s s' : St} {k : Kd} (h : Stp P ops n o F s k v s') 
  (hop : ∀ x ∈ o.op.operands, RV g (ev s.env x) (a.eval x))
  (hgd : ∀ j want d, o.guard = some (j, want) → guardDst ops j = some d → RV g (look s.env d) (a.tmps.getD d Go.undef))
  (hF : F H) (hH : (k = .sil ∧ H' = H) ∨ (k = .qui ∧ (∃ X, H = s.H ++ X) ∧ H' = H) ∨ (k ≠ .sil ∧ H = s.H ∧ H' = s'.H)) (hr : HR g H w)
  {Q : Exit → Act → World → Prop} (ho : ops[i]? = some o) {K : Act → World → Prop}
  (hk : ∀ g' x w', RV g' v x → HR g' H' w' → Ev g H w g' H' w' → K (a.put o.dst x) w') : wpOp P ops Q i K a w := by
 have hyes : ∀ j want d, o.guard = some (j, want) → guardDst ops j = some d → look s.env d = .bool want → Region.wanted o (yielded ops a.tmps) = true := by
  intro j want d h1 h2 h3
  have hv := hgd j want d h1 h2
  rw [h3] at hv
  simp [Region.wanted, h1, yielded_of h2 hv.bool_val]
 have hno : ∀ j want d, o.guard = some (j, want) → guardDst ops j = some d → (look s.env d = .bool (!want) ∨ look s.env d = .tup []) → ¬ Region.wanted o (yielded ops a.tmps) = true := by
  intro j want d h1 h2 h3
  have hv := hgd j want d h1 h2
  have : (yielded ops a.tmps j == some want) = false := yielded_not h2 (by
   rcases h3 with h3 | h3
   ·rw [h3] at hv; exact .inl hv.bool_val
   ·rw [h3] at hv; exact .inr hv.none_val)
  simp only [Region.wanted, h1]
  rw [this]
  simp
 have fin : ∀ (H₀ H₁ : List AObj), OpS P o (ev s.env) H₀ v H₁ → H = H₀ → H' = H₁ → o.wp P a w K Q := by
  intro H₀ H₁ hop' e1 e2
  subst e1 e2
  unfold Oper.wp
  exact upon_of_ok (hop' g a.eval w hop hr) fun x w' ⟨g', h1, h2, h3⟩ => hk g' x w' h1 h2 h3
 unfold wpOp
 simp only [ho]
 cases h with
 | sil _ hg hd hs =>
  have hw : Region.wanted o (yielded ops a.tmps) = true := by simp [Region.wanted, hg]
  rw [if_pos hw]
  rcases hH with ⟨_, e⟩ | ⟨e, _⟩ | ⟨e, _⟩
  ·exact .inl (fin H H (hs H hF) rfl e)
  ·cases e
  ·exact absurd rfl e
 | qui _ hg hd hs =>
  have hw : Region.wanted o (yielded ops a.tmps) = true := by simp [Region.wanted, hg]
  rw [if_pos hw]
  rcases hH with ⟨e, _⟩ | ⟨_, ⟨X, e1⟩, e2⟩ | ⟨_, e1, e2⟩
  ·cases e
  ·subst e1; exact .inl (fin _ _ (hs X) rfl e2)
  ·exact .inl (fin s.H s.H (by simpa using hs []) e1 e2)
 | new _ obs hg hd hs =>
  have hw : Region.wanted o (yielded ops a.tmps) = true := by simp [Region.wanted, hg]
  rw [if_pos hw]
  rcases hH with ⟨e, _⟩ | ⟨e, _⟩ | ⟨_, e1, e2⟩
  ·cases e
  ·cases e
  ·exact .inl (fin s.H _ hs e1 e2)
 | eff _ H2 hg hd hs =>
  have hw : Region.wanted o (yielded ops a.tmps) = true := by simp [Region.wanted, hg]
  rw [if_pos hw]
  rcases hH with ⟨e, _⟩ | ⟨e, _⟩ | ⟨_, e1, e2⟩
  ·cases e
  ·cases e
  ·exact .inl (fin s.H H2 hs e1 e2)
 | gsil v' j d want c hg hj hy hn hd hs =>
  have hHH : H' = H := by
   rcases hH with ⟨_, e⟩ | ⟨e, _⟩ | ⟨e, _⟩
   ·exact e
   ·cases e
   ·exact absurd rfl e
  by_cases hc : c
  ·rw [if_pos (hyes j want d hg hj (hy hc))]
   simp only [hc, if_true] at fin
   exact .inl (fin H H (hs hc H hF) rfl hHH)
  ·rw [if_neg (hno j want d hg hj (hn hc))]
   subst hHH
   simp only [hc, if_false] at hk
   exact hk g _ w (.nothing g) hr (.refl _ _ _)
 | gqui v' j d want c hg hj hy hn hd hs =>
  have hX : ∃ X, H = s.H ++ X ∧ H' = H := by
   rcases hH with ⟨e, _⟩ | ⟨_, ⟨X, e1⟩, e2⟩ | ⟨_, e1, e2⟩
   ·cases e
   ·exact ⟨X, e1, e2⟩
   ·exact ⟨[], by simp [e1], by rw [e1]; exact e2⟩
  obtain ⟨X, e1, e2⟩ := hX
  by_cases hc : c
  ·rw [if_pos (hyes j want d hg hj (hy hc))]
   simp only [hc, if_true] at fin
   exact .inl (fin _ _ (hs hc X) e1 (e2.trans e1))
  ·rw [if_neg (hno j want d hg hj (hn hc))]
   subst e2
   simp only [hc, if_false] at hk
   exact hk g _ w (.nothing g) hr (.refl _ _ _)
 | gyes _ H2 j d want hg hj hy hd hs =>
  rw [if_pos (hyes j want d hg hj hy)]
  rcases hH with ⟨e, _⟩ | ⟨e, _⟩ | ⟨_, e1, e2⟩
  ·cases e
  ·cases e
  ·exact .inl (fin s.H H2 hs e1 e2)
 | gno j d want hg hj hn hd =>
  rw [if_neg (hno j want d hg hj hn)]
  rcases hH with ⟨_, e⟩ | ⟨e, _⟩ | ⟨e, _⟩
  ·subst e
   exact hk g _ w (.nothing g) hr (.refl _ _ _)
  ·cases e
  ·exact absurd rfl e

theorem Stp.env {P : Program} {ops : Array Oper} {n : Nat} {o : Oper} {F : List AObj → Prop} {s s' : St} {k : Kd} {v : V} (h : Stp P ops n o F s k v s') : s'.env = putD o.dst v s.env ∧ okDst n o.dst = true ∧ (k ≠ .eff → k ≠ .new → s'.H = s.H) ∧ (k = .new → ∃ X, s'.H = s.H ++ X) := by
 cases h <;> exact ⟨rfl, by assumption, fun h h' => by first | rfl | exact absurd rfl h | exact absurd rfl h', fun h => by first | (cases h; done) | exact ⟨_, rfl⟩⟩

/-- The steps in the text's order. -/
theorem Steps.run {P : Program} {ops : Array Oper} {n : Nat} {F : List AObj → Prop} {Q : Exit → Act → World → Prop} : ∀ {l : List Nat} {s s' : St} {ks : List Kd}, Steps P ops n F l s ks s' →
  ∀ {g : Gh} {a : Act} {w : World}, RAct g n s.env a → HR g s.H w → (∀ g' a' w', RAct g' n s'.env a' → HR g' s'.H w' → Ev g s.H w g' s'.H w' → Q .normal a' w') → wpOps P ops Q l a w := by
 intro l s s' ks h
 induction h with
 | nil s _ => intro g a w ha hr hq; exact hq g a w ha hr (.refl _ _ _)
 | @cons i rest s s₁ s' k v ks o ho hF h t ih =>
  intro g a w ha hr hq
  rw [wpOps_cons]
  obtain ⟨e1, e2, e3, _⟩ := h.env
  refine h.run (g := g) (H := s.H) (H' := s₁.H) (fun x _ => ha.env.ev hr x) (fun j want d _ _ => ha.env d) hF ?_ hr ho ?_
  ·cases k with
   | sil => exact .inl ⟨rfl, e3 (by simp) (by simp)⟩
   | qui => exact .inr (.inr ⟨by simp, rfl, rfl⟩)
   | new => exact .inr (.inr ⟨by simp, rfl, rfl⟩)
   | eff => exact .inr (.inr ⟨by simp, rfl, rfl⟩)
  ·intro g' x w' hv hr' hev
   have ha' : RAct g' n s₁.env (a.put o.dst x) := by rw [e1]; exact (ha.mono hev.le).put e2 hv
   exact ih ha' hr' fun g'' a'' w'' h1 h2 h3 => hq g'' a'' w'' h1 h2 (hev.trans h3)

end
section
variable {s' : St} {g : Gh} {a : Act}

inductive Anc (ops : Array Oper) : Nat → Nat → Prop where
 | edge {i : Nat} {o : Oper} {e : Edge} (ho : ops[i]? = some o) (he : e ∈ o.after) (hb : Region.binds .any e = true) : Anc ops e.on i
 | trans {i j : Nat} {o : Oper} {e : Edge} (ho : ops[i]? = some o) (he : e ∈ o.after) (hb : Region.binds .any e = true) (h : Anc ops j e.on) : Anc ops j i

theorem before_inner (acc : Array Nat) (j : Nat) : ∀ (l : List Edge) (s : Nat), (l.foldl (fun s e => if Region.binds .any e then s ||| 2 ^ e.on ||| acc.getD e.on 0 else s) s).testBit j = true →
  s.testBit j = true ∨ ∃ e ∈ l, Region.binds .any e = true ∧ (j = e.on ∨ (acc.getD e.on 0).testBit j = true)
 | [], s, h => .inl h
 | e :: l, s, h => by
  simp only [List.foldl_cons] at h
  rcases before_inner acc j l _ h with h' | ⟨e', h1, h2, h3⟩
  ·split at h'
   ·rename_i hb
    simp only [Nat.testBit_or, Bool.or_eq_true] at h'
    rcases h' with (h' | h') | h'
    ·exact .inl h'
    ·rw [Nat.testBit_two_pow] at h'
     exact .inr ⟨e, by simp, hb, .inl (by simpa using (of_decide_eq_true h').symm)⟩
    ·exact .inr ⟨e, by simp, hb, .inr h'⟩
   ·exact .inl h'
  ·exact .inr ⟨e', by simp [h1], h2, h3⟩

theorem before_outer (ops : Array Oper) : ∀ (l pre : List Oper) (acc : Array Nat), ops.toList = pre ++ l → acc.size = pre.length → (∀ i j, (acc.getD i 0).testBit j = true → Anc ops j i) →
  ∀ i j, ((l.foldl (fun acc o => acc.push (o.after.foldl (fun s e => if Region.binds .any e then s ||| 2 ^ e.on ||| acc.getD e.on 0 else s) 0)) acc).getD i 0).testBit j = true → Anc ops j i
 | [], _, _, _, _, h => h
 | o :: l, pre, acc, he, hs, h => by
  simp only [List.foldl_cons]
  refine before_outer ops l (pre ++ [o]) _ (by simp [he]) (by simp [hs]) ?_
  intro i j hb
  by_cases hi : i < acc.size
  ·refine h i j ?_
   rw [Array.getD_eq_getD_getElem?] at hb ⊢
   rw [Array.getElem?_push_lt hi] at hb
   rw [Array.getElem?_eq_getElem hi]
   exact hb
  ·by_cases hi2 : i = acc.size
   ·subst hi2
    have ho : ops[acc.size]? = some o := by
     have : ops.toList[acc.size]? = some o := by rw [he, hs]; simp
     simpa using this
    rw [Array.getD_eq_getD_getElem?, Array.getElem?_push_size] at hb
    simp only [Option.getD_some] at hb
    rw [← Array.foldl_toList] at hb
    rcases before_inner acc j o.after.toList 0 hb with h' | ⟨e, h1, h2, h3⟩
    ·simp at h'
    ·have hm : e ∈ o.after := by simpa using h1
     rcases h3 with rfl | h3
     ·exact .edge ho hm h2
     ·exact .trans ho hm h2 (h _ _ h3)
   ·rw [Array.getD_eq_getD_getElem?, Array.getElem?_eq_none (by simp; omega)] at hb
    simp at hb

theorem before_spec (ops : Array Oper) (h : ((Region.before ops).getD i 0).testBit j = true) : Anc ops j i := by
 unfold Region.before at h
 rw [← Array.foldl_toList] at h
 exact before_outer ops ops.toList [] #[] (by simp) rfl (by intro i j h; simp at h) i j h

def dstOf (ops : Array Oper) (i : Nat) : Option Tmp := (ops[i]?).bind (·.dst)
def looksOf (ops : Array Oper) (i : Nat) : List Tmp := match ops[i]? with | some o => o.looksAt ops | none => []

/-- The operation at a place of the order in which the steps are told. -/
def io (ord : List Nat) (p : Nat) : Nat := ord.getD p 0

def dPair (ops : Array Oper) (b : Array Nat) (ord : List Nat) (ks : List Kd) (p q : Nat) : Bool :=
  let i := io ord p
  let j := io ord q
  let bef (x y : Nat) : Bool := (b.getD y 0).testBit x
  let ordered := if q < p then bef j i else bef i j
  (match dstOf ops j with
   | none => true
   | some d => dstOf ops i != some d && (!(looksOf ops i).contains d || ordered)) &&
  (match ks.getD p .sil, ks.getD q .sil with
   | .eff, .sil => true
   | .eff, _ => ordered
   | .new, .sil => true
   | .new, .qui => q < p || ordered
   | .new, _ => ordered
   | _, _ => true) &&
  (match ks.getD p .sil, ks.getD q .sil with
   | .new, .qui => p < q && ordered || q < p
   | _, _ => true)

def dOK (ops : Array Oper) (ord : List Nat) (ks : List Kd) : Bool :=
 let b := Region.before ops
 ord.length == ops.size && (List.range ops.size).all (fun i => ord.contains i) && ord.all (fun i => i < ops.size) && decide ord.Nodup &&
 ((List.range ops.size).all (fun i => match ops[i]? with | some o => o.after.all (fun e => !Region.binds .any e || e.on < i) | none => true) ||
  (List.range ops.size).all (fun i => match ops[i]? with | some o => o.after.all (fun e => !Region.binds .any e || (decide (e.on < ops.size) && decide (ord.idxOf e.on < ord.idxOf i))) | none => true)) &&
 (List.range ops.size).all (fun p => (List.range ops.size).all fun q => p == q || dPair ops b ord ks p q)

theorem Steps.trace {P : Program} {ops : Array Oper} {n : Nat} {F : List AObj → Prop} : ∀ {l : List Nat} {m : Nat} {s s' : St} {ks : List Kd}, Steps P ops n F l s ks s' →
  ∃ (sts : Nat → St) (val : Nat → V), sts m = s ∧ sts (m + l.length) = s' ∧ (∀ p, p ≤ l.length → F (sts (m + p)).H) ∧
   ∀ p, p < l.length → ∃ o, ops[io l p]? = some o ∧ Stp P ops n o F (sts (m + p)) (ks.getD p .sil) (val (m + p)) (sts (m + p + 1))
 | [], m, s, s', ks, h => by
  cases h with
  | nil _ hF => exact ⟨fun _ => s, fun _ => .undef, rfl, rfl, fun p _ => hF, fun p h2 => by simp at h2⟩
 | i :: l, m, s, s', ks, h => by
  cases h with
  | @cons _ _ _ s₁ _ kd v ks' o ho hF hstp ht =>
   obtain ⟨sts, val, h1, h2, hinv, h3⟩ := Steps.trace (m := m + 1) ht
   refine ⟨fun i => if i = m then s else sts i, fun i => if i = m then v else val i, by simp, ?_, ?_, ?_⟩
   ·simp only []
    rw [if_neg (by simp), show m + (i :: l).length = m + 1 + l.length from by simp; omega]
    exact h2
   ·intro p hp
    cases p with
    | zero => simp only [Nat.add_zero, if_true]; exact hF
    | succ p =>
     simp only []
     rw [if_neg (by omega), show m + (p + 1) = m + 1 + p from by omega]
     exact hinv p (by simp at hp; omega)
   ·intro p hp
    cases p with
    | zero =>
     refine ⟨o, by simpa [io] using ho, ?_⟩
     simp only [Nat.add_zero, if_true, List.getD_cons_zero]
     rw [if_neg (by omega), h1]
     exact hstp
    | succ p =>
     obtain ⟨o', ho', hs'⟩ := h3 p (by simpa using hp)
     refine ⟨o', by simpa [io] using ho', ?_⟩
     simp only []
     rw [if_neg (by omega), if_neg (by omega), if_neg (by omega), List.getD_cons_succ, show m + (p + 1) = m + 1 + p from by omega]
     exact hs'

structure Tr (P : Program) (ops : Array Oper) (n : Nat) (F : List AObj → Prop) (ord : List Nat) (ks : List Kd) (sts : Nat → St) (val : Nat → V) : Prop where
 step : ∀ p, p < ops.size → ∃ o, ops[io ord p]? = some o ∧ Stp P ops n o F (sts p) (ks.getD p .sil) (val p) (sts (p + 1))
 inv : ∀ p, p ≤ ops.size → F (sts p).H

section
variable {P : Program} {ops : Array Oper} {n : Nat} {F : List AObj → Prop} {ord : List Nat} {ks : List Kd} {sts : Nat → St} {val : Nat → V}

theorem Tr.look_none (T : Tr P ops n F ord ks sts val) {t : Tmp} : ∀ {i : Nat}, i ≤ ops.size → (∀ j, j < i → dstOf ops (io ord j) ≠ some t) → look (sts i).env t = look (sts 0).env t
 | 0, _, _ => rfl
 | i + 1, hi, h => by
  obtain ⟨o, ho, hs⟩ := T.step i (by omega)
  rw [hs.env.1]
  have hd : o.dst ≠ some t := fun e => h i (by omega) (by simp [dstOf, ho, e])
  have ih := T.look_none (t := t) (i := i) (by omega) (fun j hj => h j (by omega))
  cases hdst : o.dst with
  | none => simpa [putD] using ih
  | some d =>
   simp only [putD, look_cons]
   rw [if_neg (fun e => hd (by rw [hdst, e]))]
   exact ih

theorem Tr.look_some (T : Tr P ops n F ord ks sts val) {t : Tmp} : ∀ {i j : Nat}, i ≤ ops.size → j < i → dstOf ops (io ord j) = some t → (∀ k, j < k → k < i → dstOf ops (io ord k) ≠ some t) → look (sts i).env t = val j
 | 0, _, _, hj, _, _ => by omega
 | i + 1, j, hi, hj, hd, h => by
  obtain ⟨o, ho, hs⟩ := T.step i (by omega)
  rw [hs.env.1]
  by_cases e : j = i
  ·subst e
   have : o.dst = some t := by simpa [dstOf, ho] using hd
   simp [this, putD, look_cons]
  ·have hdi : o.dst ≠ some t := fun e' => h i (by omega) (by omega) (by simp [dstOf, ho, e'])
   have ih := T.look_some (t := t) (i := i) (j := j) (by omega) (by omega) hd (fun k h1 h2 => h k h1 (by omega))
   cases hdst : o.dst with
   | none => simpa [putD] using ih
   | some d =>
    simp only [putD, look_cons]
    rw [if_neg (fun e' => hdi (by rw [hdst, e']))]
    exact ih

theorem Tr.heap (T : Tr P ops n F ord ks sts val) : ∀ {x y : Nat}, x ≤ y → y ≤ ops.size → (∀ i, x ≤ i → i < y → ks.getD i .sil ≠ .eff) → ∃ X, (sts y).H = (sts x).H ++ X
 | x, y, hxy, hy, h => by
  obtain ⟨d, rfl⟩ : ∃ d, y = x + d := ⟨y - x, by omega⟩
  induction d with
  | zero => exact ⟨[], by simp⟩
  | succ d ih =>
   obtain ⟨o, ho, hs⟩ := T.step (x + d) (by omega)
   obtain ⟨X, hX⟩ := ih (by omega) (by omega) (fun i h1 h2 => h i h1 (by omega))
   rw [show x + (d + 1) = x + d + 1 from by omega]
   by_cases hn : ks.getD (x + d) .sil = .new
   ·obtain ⟨Y, hY⟩ := hs.env.2.2.2 hn
    exact ⟨X ++ Y, by rw [hY, hX]; simp⟩
   ·exact ⟨X, by rw [hs.env.2.2.1 (h (x + d) (by omega) (by omega)) hn]; exact hX⟩

theorem Tr.heapEq (T : Tr P ops n F ord ks sts val) : ∀ {x y : Nat}, x ≤ y → y ≤ ops.size → (∀ i, x ≤ i → i < y → ks.getD i .sil ≠ .eff ∧ ks.getD i .sil ≠ .new) → (sts y).H = (sts x).H
 | x, y, hxy, hy, h => by
  obtain ⟨d, rfl⟩ : ∃ d, y = x + d := ⟨y - x, by omega⟩
  induction d with
  | zero => rfl
  | succ d ih =>
   obtain ⟨o, ho, hs⟩ := T.step (x + d) (by omega)
   rw [show x + (d + 1) = x + d + 1 from by omega, hs.env.2.2.1 (h (x + d) (by omega) (by omega)).1 (h (x + d) (by omega) (by omega)).2]
   exact ih (by omega) (by omega) (fun i h1 h2 => h i h1 (by omega))

end

/-- What holds when the operations of 'L' have been done, in whatever order. -/
structure DInv (g₀ : Gh) (w₀ : World) (ops : Array Oper) (n : Nat) (ord : List Nat) (ks : List Kd) (sts : Nat → St) (val : Nat → V) (L : Nat → Prop) (g : Gh) (a : Act) (w : World) : Prop where
 down : ∀ (i : Nat) (o : Oper) (e : Edge), L i → ops[i]? = some o → e ∈ o.after → Region.binds .any e = true → L e.on
 size : a.tmps.size = n
 defers : a.defers = []
 done : ∀ (p : Nat) (t : Tmp), p < ops.size → L (io ord p) → dstOf ops (io ord p) = some t → RV g (val p) (a.tmps.getD t Go.undef)
 old : ∀ t : Tmp, (∀ p, p < ops.size → L (io ord p) → dstOf ops (io ord p) ≠ some t) → RV g (look (sts 0).env t) (a.tmps.getD t Go.undef)
 heap : ∃ c, c ≤ ops.size ∧ (∀ p, p < ops.size → (ks.getD p .sil = .eff ∨ ks.getD p .sil = .new) → (L (io ord p) ↔ p < c)) ∧ HR g (sts c).H w ∧ Ev g₀ (sts 0).H w₀ g (sts c).H w

theorem Anc.down {ops : Array Oper} {L : Nat → Prop} (hd : ∀ (i : Nat) (o : Oper) (e : Edge), L i → ops[i]? = some o → e ∈ o.after → Region.binds .any e = true → L e.on)
  (h : Anc ops j i) : L i → L j := by
 induction h with
 | edge ho he hb => exact fun hl => hd _ _ _ hl ho he hb
 | trans ho he hb _ ih => exact fun hl => ih (hd _ _ _ hl ho he hb)

theorem Anc.downR {ops : Array Oper} {L : Nat → Prop} (hd : ∀ (i : Nat) (o : Oper) (e : Edge), L i → ops[i]? = some o → e ∈ o.after → Region.binds .any e = true → L e.on)
  (h : Anc ops j i) (hr : ∀ (o : Oper) (e : Edge), ops[i]? = some o → e ∈ o.after → Region.binds .any e = true → L e.on) : L j := by
 cases h with
 | edge ho he hb => exact hr _ _ ho he hb
 | trans ho he hb h => exact h.down hd (hr _ _ ho he hb)

structure DSpec (ops : Array Oper) (ord : List Nat) (ks : List Kd) : Prop where
 len : ord.length = ops.size
 sur : ∀ i, i < ops.size → ∃ p, p < ops.size ∧ io ord p = i
 low : ∀ p, p < ops.size → io ord p < ops.size
 inj : ∀ p q, p < ops.size → q < ops.size → io ord p = io ord q → p = q
 edge : ∃ r : Nat → Nat, ∀ (i : Nat) (o : Oper) (e : Edge), ops[i]? = some o → e ∈ o.after → Region.binds .any e = true → e.on < ops.size ∧ r e.on < r i
 dst : ∀ p q d, p < ops.size → q < ops.size → p ≠ q → dstOf ops (io ord q) = some d → dstOf ops (io ord p) ≠ some d ∧ (d ∈ looksOf ops (io ord p) → (q < p → Anc ops (io ord q) (io ord p)) ∧ (p < q → Anc ops (io ord p) (io ord q)))
 eff : ∀ p q, p < ops.size → q < ops.size → p ≠ q → ks.getD p .sil = .eff → ks.getD q .sil ≠ .sil → (q < p → Anc ops (io ord q) (io ord p)) ∧ (p < q → Anc ops (io ord p) (io ord q))
 new : ∀ p q, p < ops.size → q < ops.size → p ≠ q → ks.getD p .sil = .new → ks.getD q .sil = .new → (q < p → Anc ops (io ord q) (io ord p)) ∧ (p < q → Anc ops (io ord p) (io ord q))
 newq : ∀ p q, p < ops.size → q < ops.size → p < q → ks.getD p .sil = .new → ks.getD q .sil = .qui → Anc ops (io ord p) (io ord q)

theorem dOK_spec {ops : Array Oper} {ord : List Nat} {ks : List Kd} (h : dOK ops ord ks = true) : DSpec ops ord ks := by
 unfold dOK at h
 simp only [Bool.and_eq_true, beq_iff_eq, List.all_eq_true, List.mem_range, List.contains_eq_mem, decide_eq_true_eq] at h
 obtain ⟨⟨⟨⟨⟨h1, h2⟩, h3⟩, h4⟩, h5⟩, h6⟩ := h
 have hb : ∀ (x y x' y' : Nat), (if x' < y' then ((Region.before ops).getD y 0).testBit x else ((Region.before ops).getD x 0).testBit y) = true → (x' < y' → Anc ops x y) ∧ (y' < x' → Anc ops y x) := by
  intro x y x' y' hxy
  constructor
  ·intro hl; rw [if_pos hl] at hxy; exact before_spec ops hxy
  ·intro hl; rw [if_neg (by omega)] at hxy; exact before_spec ops hxy
 have hget : ∀ p, p < ops.size → ord[p]? = some (io ord p) := by
  intro p hp
  have : p < ord.length := by omega
  simp [io, List.getD, this]
 have pair : ∀ p q, p < ops.size → q < ops.size → p ≠ q → dPair ops (Region.before ops) ord ks p q = true := by
  intro p q hp hq hne
  have := h6 p hp q hq
  simp only [Bool.or_eq_true, beq_iff_eq] at this
  exact this.resolve_left hne
 refine ⟨h1, ?_, ?_, ?_, ?_, ?_, ?_, ?_, ?_⟩
 ·intro i hi
  obtain ⟨p, hp, e⟩ := List.mem_iff_getElem.1 (h2 i hi)
  exact ⟨p, by omega, by simp [io, List.getD, hp, e]⟩
 ·intro p hp
  exact h3 _ (List.mem_of_getElem? (hget p hp))
 ·intro p q hp hq e
  have hp' : p < ord.length := by omega
  have hq' : q < ord.length := by omega
  have e1 := hget p hp
  have e2 := hget q hq
  rw [e] at e1
  rw [List.getElem?_eq_getElem hp'] at e1
  rw [List.getElem?_eq_getElem hq'] at e2
  exact (List.getElem_inj (h₀ := hp') (h₁ := hq') h4).1 ((Option.some.inj e1).trans (Option.some.inj e2).symm)
 ·simp only [Bool.or_eq_true, List.all_eq_true, List.mem_range] at h5
  rcases h5 with h5 | h5
  ·refine ⟨fun i => i, fun i o e ho he hbd => ?_⟩
   have hi : i < ops.size := (Array.getElem?_eq_some_iff.1 ho).1
   have := h5 i hi
   simp only [ho, Array.all_eq_true'] at this
   have := this e he
   simp only [hbd, Bool.not_true, Bool.false_or, decide_eq_true_eq] at this
   exact ⟨by omega, this⟩
  ·refine ⟨fun i => ord.idxOf i, fun i o e ho he hbd => ?_⟩
   have hi : i < ops.size := (Array.getElem?_eq_some_iff.1 ho).1
   have := h5 i hi
   simp only [ho, Array.all_eq_true'] at this
   have := this e he
   simpa [hbd] using this
 ·intro p q d hp hq hne hd
  have := pair p q hp hq hne
  simp only [dPair, Bool.and_eq_true, hd, bne_iff_ne] at this
  refine ⟨this.1.1.1, fun hm => ?_⟩
  have h2 := this.1.1.2
  simp only [Bool.or_eq_true, Bool.not_eq_true', List.contains_eq_mem, decide_eq_false_iff_not] at h2
  rcases h2 with h2 | h2
  ·exact absurd hm h2
  ·exact hb _ _ q p h2
 ·intro p q hp hq hne hkp hkq
  have := pair p q hp hq hne
  simp only [dPair, Bool.and_eq_true, hkp] at this
  have h2 := this.1.2
  cases hk : ks.getD q .sil with
  | sil => exact absurd hk hkq
  | qui => first | exact hb _ _ q p h2 | (rw [hk] at h2; exact hb _ _ q p h2)
  | new => first | exact hb _ _ q p h2 | (rw [hk] at h2; exact hb _ _ q p h2)
  | eff => first | exact hb _ _ q p h2 | (rw [hk] at h2; exact hb _ _ q p h2)
 ·intro p q hp hq hne hkp hkq
  have := pair p q hp hq hne
  simp only [dPair, Bool.and_eq_true, hkp, hkq] at this
  exact hb _ _ q p this.1.2
 ·intro p q hp hq hlt hkp hkq
  have := pair p q hp hq (by omega)
  simp only [dPair, Bool.and_eq_true, hkp, hkq] at this
  have h2 := this.2
  simp only [Bool.or_eq_true, Bool.and_eq_true, decide_eq_true_eq] at h2
  rcases h2 with ⟨_, h2⟩ | h2
  ·exact (hb _ _ q p h2).2 hlt
  ·omega

theorem ready_mem {ops : Array Oper} {listed : Array Bool} (h : i ∈ Region.ready .any ops listed) :
  i < ops.size ∧ listed.getD i true = false ∧ ∃ o, ops[i]? = some o ∧ ∀ e ∈ o.after, Region.binds .any e = true → listed.getD e.on false = true := by
 unfold Region.ready at h
 simp only [List.mem_filter, List.mem_range, Bool.and_eq_true, Bool.not_eq_true'] at h
 obtain ⟨h1, h2, h3⟩ := h
 refine ⟨h1, h2, ?_⟩
 rw [Array.getElem?_eq_getElem h1] at h3 ⊢
 simp only [Option.map_some, Option.getD_some, Array.all_eq_true', Bool.or_eq_true, Bool.not_eq_true'] at h3
 refine ⟨_, rfl, fun e he hb => ?_⟩
 rcases h3 e he with h | h
 ·rw [hb] at h; cases h
 ·exact h

def isL (listed : Array Bool) (i : Nat) : Prop := listed.getD i false = true

theorem isL_set {listed : Array Bool} (hi : i < listed.size) (j : Nat) : isL (listed.setIfInBounds i true) j ↔ (j = i ∨ isL listed j) := by
 unfold isL
 simp only [Array.getD_eq_getD_getElem?]
 by_cases e : j = i
 ·subst e; simp [hi]
 ·rw [Array.getElem?_setIfInBounds_ne (fun h => e h.symm)]; simp [e]

def left (listed : Array Bool) : Nat := (listed.toList.filter (· == false)).length

theorem left_set {listed : Array Bool} (h : listed[i]? = some false) : left listed = left (listed.setIfInBounds i true) + 1 := by
 unfold left
 rw [Array.toList_setIfInBounds]
 have hl : listed.toList[i]? = some false := by simpa using h
 generalize listed.toList = l at hl
 clear h
 induction l generalizing i with
 | nil => simp at hl
 | cons x l ih =>
  cases i with
  | zero => simp at hl; subst hl; simp
  | succ i =>
   simp at hl
   have := ih (i := i) hl
   rw [List.set_cons_succ]
   cases x <;> simpa using this

theorem left_zero {listed : Array Bool} (h : left listed = 0) (i : Nat) (hi : i < listed.size) : isL listed i := by
 unfold left at h
 rw [List.length_eq_zero_iff, List.filter_eq_nil_iff] at h
 have hm : listed[i] ∈ listed.toList := by simp
 have := h _ hm
 simp at this
 simp [isL, Array.getD_eq_getD_getElem?, Array.getElem?_eq_getElem hi, this]

theorem DInv.step {P : Program} {ops : Array Oper} {n : Nat} {F : List AObj → Prop} {ord : List Nat} {ks : List Kd} {sts : Nat → St} {val : Nat → V} {Q : Exit → Act → World → Prop}
  (T : Tr P ops n F ord ks sts val) (hk : DSpec ops ord ks)
  {g₀ : Gh} {w₀ : World} {L L' : Nat → Prop} {g : Gh} {a : Act} {w : World} (h : DInv g₀ w₀ ops n ord ks sts val L g a w)
  {p : Nat} (hp : p < ops.size) (hn : ¬ L (io ord p)) (hr : ∀ (o : Oper) (e : Edge), ops[io ord p]? = some o → e ∈ o.after → Region.binds .any e = true → L e.on)
  (hL' : ∀ j, L' j ↔ (j = io ord p ∨ L j)) {K : Act → World → Prop}
  (hK : ∀ g' a' w', DInv g₀ w₀ ops n ord ks sts val L' g' a' w' → K a' w') :
  wpOp P ops Q (io ord p) K a w := by
 obtain ⟨o, ho, hs⟩ := T.step p hp
 have hlow : ∀ j, Anc ops j (io ord p) → L j := fun j hj => hj.downR h.down (fun o e => hr o e)
 have hhigh : ∀ j, Anc ops (io ord p) j → ¬ L j := fun j hj hl => hn (hj.down h.down hl)
 -- the temporaries that the operation looks at
 have hlook : ∀ t, t ∈ looksOf ops (io ord p) → RV g (look (sts p).env t) (a.tmps.getD t Go.undef) := by
  intro t ht
  by_cases hex : ∃ q, q < ops.size ∧ q ≠ p ∧ dstOf ops (io ord q) = some t
  ·obtain ⟨q, hq, hne, hd⟩ := hex
   obtain ⟨hdi, hord⟩ := hk.dst p q t hp hq (fun e => hne e.symm) hd
   obtain ⟨o1, o2⟩ := hord ht
   have huniq : ∀ k, k < ops.size → k ≠ q → dstOf ops (io ord k) ≠ some t := by
    intro k hk' hkq hdk
    exact (hk.dst k q t hk' hq hkq hd).1 hdk
   rcases Nat.lt_or_ge q p with hl | hl
   ·rw [T.look_some (i := p) (j := q) (by omega) hl hd (fun k h1 h2 => huniq k (by omega) (by omega))]
    exact h.done q t hq (hlow _ (o1 hl)) hd
   ·rw [T.look_none (i := p) (by omega) (fun k hkl => huniq k (by omega) (by omega))]
    refine h.old t fun k hk' hkl hdk => ?_
    by_cases e : k = q
    ·subst e; exact hhigh _ (o2 (by omega)) hkl
    ·exact huniq k hk' e hdk
  ·have hnone : ∀ q, q < ops.size → q ≠ p → dstOf ops (io ord q) ≠ some t := fun q hq hqp hd => hex ⟨q, hq, hqp, hd⟩
   rw [T.look_none (i := p) (by omega) (fun k hkl => hnone k (by omega) (by omega))]
   refine h.old t fun k hk' hkl hdk => ?_
   by_cases e : k = p
   ·subst e; exact hn hkl
   ·exact hnone k hk' e hdk
 have hops : ∀ x ∈ o.op.operands, RV g (ev (sts p).env x) (a.eval x) := by
  intro x hx
  cases x with
  | tmp t =>
   refine hlook t ?_
   simp only [looksOf, ho, Oper.looksAt, List.mem_append, List.mem_filterMap]
   exact .inl ⟨.tmp t, by simpa using hx, rfl⟩
  | const v => exact constV_rv g v
  | global b => obtain ⟨_, _, _, hHR0, _⟩ := h.heap; exact glV_rv hHR0 b
  | func f => exact ⟨rfl, #[], #[], by simp [Act.eval, Value.cells], by simp [RVl], by simp [RVl]⟩
 have hgds : ∀ j want d, o.guard = some (j, want) → guardDst ops j = some d → RV g (look (sts p).env d) (a.tmps.getD d Go.undef) := by
  intro j want d h1 h2
  refine hlook d ?_
  simp only [looksOf, ho, Oper.looksAt, h1, List.mem_append]
  unfold guardDst at h2
  exact .inr (by rw [h2]; simp)
 obtain ⟨c, hc, hce, hHR, hEv⟩ := h.heap
 let changes : Nat → Prop := fun q => ks.getD q .sil = .eff ∨ ks.getD q .sil = .new
 -- the heap, for one that changes it
 have hheap : changes p → (sts p).H = (sts c).H := by
  intro hks
  have hE : ∀ e, e < ops.size → changes e → e ≠ p → (L (io ord e) ↔ e < p) := by
   intro e he hke hei
   have hord : (e < p → Anc ops (io ord e) (io ord p)) ∧ (p < e → Anc ops (io ord p) (io ord e)) := by
    rcases hks with hks | hks
    ·exact hk.eff p e hp he (fun q => hei q.symm) hks (by rcases hke with q | q <;> rw [q] <;> simp)
    ·rcases hke with hke | hke
     ·have := hk.eff e p he hp hei hke (by rw [hks]; simp)
      exact ⟨this.2, this.1⟩
     ·exact hk.new p e hp he (fun q => hei q.symm) hks hke
   constructor
   ·intro hl
    rcases Nat.lt_or_ge e p with hlt | hge
    ·exact hlt
    ·exact absurd hl (hhigh _ (hord.2 (by omega)))
   ·intro hlt; exact hlow _ (hord.1 hlt)
  rcases Nat.le_total p c with hic | hci
  ·refine (T.heapEq hic hc ?_).symm
   intro e h1 h2
   have key : ¬ changes e := by
    intro hke
    have hl := (hce e (by omega) hke).2 h2
    by_cases hei : e = p
    ·subst hei; exact hn hl
    ·have := (hE e (by omega) hke hei).1 hl; omega
   exact ⟨fun q => key (.inl q), fun q => key (.inr q)⟩
  ·refine T.heapEq hci (by omega) ?_
   intro e h1 h2
   have key : ¬ changes e := by
    intro hke
    have hl := (hE e (by omega) hke (by omega)).2 h2
    have := (hce e (by omega) hke).1 hl; omega
   exact ⟨fun q => key (.inl q), fun q => key (.inr q)⟩
 -- the heap, for one that looks at it
 have hlookH : ks.getD p .sil = .qui → ∃ X, (sts c).H = (sts p).H ++ X := by
  intro hks
  rcases Nat.le_total p c with hic | hci
  ·refine T.heap hic hc ?_
   intro e h1 h2 hke
   have hl := (hce e (by omega) (.inl hke)).2 h2
   by_cases hei : e = p
   ·subst hei; exact hn hl
   ·exact hhigh _ ((hk.eff e p (by omega) hp hei hke (by rw [hks]; simp)).1 (by omega)) hl
  ·have := T.heapEq hci (by omega) ?_
   ·exact ⟨[], by rw [this]; simp⟩
   ·intro e h1 h2
    have key : ¬ changes e := by
     intro hke
     have hl : L (io ord e) := by
      rcases hke with hke | hke
      ·exact hlow _ ((hk.eff e p (by omega) hp (by omega) hke (by rw [hks]; simp)).2 h2)
      ·exact hlow _ (hk.newq e p (by omega) hp h2 hke hks)
     have := (hce e (by omega) hke).1 hl; omega
    exact ⟨fun q => key (.inl q), fun q => key (.inr q)⟩
 refine hs.run (g := g) (H := (sts c).H) (H' := if ks.getD p .sil = .eff ∨ ks.getD p .sil = .new then (sts (p + 1)).H else (sts c).H) hops hgds (T.inv c hc) ?_ hHR ho ?_
 ·cases hks : ks.getD p .sil with
  | sil => exact .inl ⟨rfl, by simp⟩
  | qui => exact .inr (.inl ⟨rfl, hlookH hks, by simp⟩)
  | new => exact .inr (.inr ⟨by simp, (hheap (.inr hks)).symm, by simp⟩)
  | eff => exact .inr (.inr ⟨by simp, (hheap (.inl hks)).symm, by simp⟩)
 ·intro g' x w' hv hr' hev
  refine hK g' _ w' ?_
  have hdst : dstOf ops (io ord p) = o.dst := by simp [dstOf, ho]
  refine ⟨?_, by rw [size_put]; exact h.size, by cases hq : o.dst <;> (first | exact h.defers | simpa [Act.put] using h.defers), ?_, ?_, ?_⟩
  ·intro j o' e hl ho' he hb
   rw [hL'] at hl ⊢
   rcases hl with rfl | hl
   ·exact .inr (hr o' e ho' he hb)
   ·exact .inr (h.down j o' e hl ho' he hb)
  ·intro q t hq hl hd
   rw [hL'] at hl
   cases hod : o.dst with
   | none =>
    rcases hl with hl | hl
    ·rw [hl, hdst, hod] at hd; cases hd
    ·simpa [Act.put] using (h.done q t hq hl hd).mono hev.le
   | some d =>
    have hdn : d < n := by simpa [okDst, hod] using hs.env.2.1
    rw [getD_put a d t x (by rw [h.size]; exact hdn)]
    by_cases hji : q = p
    ·subst hji
     rw [hdst, hod] at hd
     cases hd
     simpa using hv
    ·have hl' : L (io ord q) := hl.resolve_left (fun e => hji (hk.inj q p hq hp e))
     have := (hk.dst p q t hp hq (fun e => hji e.symm) hd).1
     rw [hdst, hod] at this
     rw [if_neg (fun e => this (by rw [e]))]
     exact (h.done q t hq hl' hd).mono hev.le
  ·intro t ht
   have h1 : ∀ q, q < ops.size → L (io ord q) → dstOf ops (io ord q) ≠ some t := fun q hq hl => ht q hq ((hL' _).2 (.inr hl))
   have h2 : dstOf ops (io ord p) ≠ some t := ht p hp ((hL' _).2 (.inl rfl))
   cases hod : o.dst with
   | none => simpa [Act.put] using (h.old t h1).mono hev.le
   | some d =>
    rw [hdst, hod] at h2
    have hdn : d < n := by simpa [okDst, hod] using hs.env.2.1
    rw [getD_put a d t x (by rw [h.size]; exact hdn), if_neg (fun e => h2 (by rw [e]))]
    exact (h.old t h1).mono hev.le
  ·refine ⟨if ks.getD p .sil = .eff ∨ ks.getD p .sil = .new then p + 1 else c, by split <;> omega, ?_, by split <;> (rename_i hq; first | (rw [if_pos hq] at hr'; exact hr') | (rw [if_neg hq] at hr'; exact hr')),
    hEv.trans (by split <;> (rename_i hq; first | (rw [if_pos hq] at hev; exact hev) | (rw [if_neg hq] at hev; exact hev)))⟩
   intro e he hke
   rw [hL']
   split
   ·rename_i hki
    by_cases hei : e = p
    ·subst hei; simp
    ·have hne : io ord e ≠ io ord p := fun q => hei (hk.inj e p he hp q)
     have hord : (e < p → Anc ops (io ord e) (io ord p)) ∧ (p < e → Anc ops (io ord p) (io ord e)) := by
      rcases hki with hks | hks
      ·exact hk.eff p e hp he (fun q => hei q.symm) hks (by rcases hke with q | q <;> rw [q] <;> simp)
      ·rcases hke with hke | hke
       ·have := hk.eff e p he hp hei hke (by rw [hks]; simp)
        exact ⟨this.2, this.1⟩
       ·exact hk.new p e hp he (fun q => hei q.symm) hks hke
     constructor
     ·rintro (hq | hl)
      ·exact absurd hq hne
      ·rcases Nat.lt_or_ge e p with hlt | hge
       ·omega
       ·exact absurd hl (hhigh _ (hord.2 (by omega)))
     ·intro hlt
      exact .inr (hlow _ (hord.1 (by omega)))
   ·rename_i hki
    have hei : e ≠ p := fun q => hki (q ▸ hke)
    have hne : io ord e ≠ io ord p := fun q => hei (hk.inj e p he hp q)
    constructor
    ·rintro (hq | hl)
     ·exact absurd hq hne
     ·exact (hce e he hke).1 hl
    ·intro hlt; exact .inr ((hce e he hke).2 hlt)

theorem DInv.all {P : Program} {ops : Array Oper} {n : Nat} {F : List AObj → Prop} {ord : List Nat} {ks : List Kd} {sts : Nat → St} {val : Nat → V} {Q : Exit → Act → World → Prop}
  (T : Tr P ops n F ord ks sts val) (hk : DSpec ops ord ks)
  {g₀ : Gh} {w₀ : World} (hq : ∀ g a w, RAct g n (sts ops.size).env a → HR g (sts ops.size).H w → Ev g₀ (sts 0).H w₀ g (sts ops.size).H w → Q .normal a w) :
  ∀ (fuel : Nat) (listed : Array Bool) (g : Gh) (a : Act) (w : World), listed.size = ops.size → left listed = fuel → DInv g₀ w₀ ops n ord ks sts val (isL listed) g a w → wpAny P .any ops Q fuel listed a w := by
 have fin : ∀ (listed : Array Bool) (g : Gh) (a : Act) (w : World), listed.size = ops.size → (∀ i, i < ops.size → isL listed i) → DInv g₀ w₀ ops n ord ks sts val (isL listed) g a w → Q .normal a w := by
  intro listed g a w hs hall h
  obtain ⟨c, hc, hce, hHR, hEv⟩ := h.heap
  have hH : (sts ops.size).H = (sts c).H := by
   refine T.heapEq hc (Nat.le_refl _) fun i h1 h2 => ?_
   have key : ¬ (ks.getD i .sil = .eff ∨ ks.getD i .sil = .new) := by
    intro hki
    have := (hce i h2 hki).1 (hall _ (hk.low i h2))
    omega
   exact ⟨fun q => key (.inl q), fun q => key (.inr q)⟩
  refine hq g a w ⟨fun t => ?_, h.size, h.defers⟩ (by rw [hH]; exact hHR) (by rw [hH]; exact hEv)
  by_cases hex : ∃ q, q < ops.size ∧ dstOf ops (io ord q) = some t
  ·obtain ⟨j, hj, hd⟩ := hex
   rw [T.look_some (i := ops.size) (j := j) (Nat.le_refl _) hj hd (fun k h1 h2 hdk => (hk.dst k j t h2 hj (by omega) hd).1 hdk)]
   exact h.done j t hj (hall _ (hk.low j hj)) hd
  ·rw [T.look_none (i := ops.size) (Nat.le_refl _) (fun k hk' hd => hex ⟨k, hk', hd⟩)]
   exact h.old t fun i hi _ hd => hex ⟨i, hi, hd⟩
 have rdy : ∀ (listed : Array Bool), listed.size = ops.size → Region.ready .any ops listed = [] → ∀ i, i < ops.size → isL listed i := by
  intro listed hs hr
  obtain ⟨rk, hrk⟩ := hk.edge
  suffices key : ∀ m i, rk i = m → i < ops.size → isL listed i from fun i => key _ i rfl
  intro m
  induction m using Nat.strongRecOn with
  | _ m ih =>
   intro i hm0 hi
   refine Classical.byContradiction fun hn => ?_
   have hm : i ∈ Region.ready .any ops listed := by
    unfold Region.ready
    simp only [List.mem_filter, List.mem_range, Bool.and_eq_true, Bool.not_eq_true']
    refine ⟨hi, ?_, ?_⟩
    ·have hil : i < listed.size := by omega
     have hn' : ¬ listed.getD i false = true := hn
     rw [Array.getD_eq_getD_getElem?, Array.getElem?_eq_getElem hil] at hn' ⊢
     simpa using hn'
    ·rw [Array.getElem?_eq_getElem hi]
     simp only [Option.map_some, Option.getD_some, Array.all_eq_true', Bool.or_eq_true, Bool.not_eq_true']
     intro e he
     cases hb : Region.binds .any e with
     | false => exact .inl rfl
     | true =>
      have hlt := hrk i _ e (Array.getElem?_eq_getElem hi) he hb
      exact .inr (ih (rk e.on) (by omega) e.on rfl hlt.1)
   rw [hr] at hm
   cases hm
 intro fuel
 induction fuel with
 | zero =>
  intro listed g a w hs hl h
  have hall : ∀ i, i < ops.size → isL listed i := fun i hi => left_zero hl i (by omega)
  refine ⟨?_, fin listed g a w hs hall h⟩
  refine List.eq_nil_iff_forall_not_mem.2 fun i hm => ?_
  obtain ⟨h1, h2, _⟩ := ready_mem hm
  have := hall i h1
  unfold isL at this
  rw [Array.getD_eq_getD_getElem?, Array.getElem?_eq_getElem (by omega)] at this h2
  simp at this h2
  rw [this] at h2
  cases h2
 | succ fuel ih =>
  intro listed g a w hs hl h
  refine ⟨fun hr => fin listed g a w hs (rdy listed hs hr) h, fun i hm => ?_⟩
  obtain ⟨h1, h2, o, ho, h3⟩ := ready_mem hm
  have hil : i < listed.size := by omega
  have hfalse : listed[i]? = some false := by
   rw [Array.getD_eq_getD_getElem?, Array.getElem?_eq_getElem hil] at h2
   simp at h2
   rw [Array.getElem?_eq_getElem hil, h2]
  obtain ⟨p, hp, rfl⟩ := hk.sur i h1
  refine h.step (L' := isL (listed.setIfInBounds (io ord p) true)) T hk hp ?_ ?_ (fun j => isL_set hil j) ?_
  ·intro hL
   unfold isL at hL
   rw [Array.getD_eq_getD_getElem?, hfalse] at hL
   cases hL
  ·intro o' e ho' he hb
   rw [ho] at ho'
   cases ho'
   exact h3 e he hb
  ·intro g' a' w' hd
   refine ih _ g' a' w' (by simpa using hs) ?_ hd
   have := left_set hfalse
   omega

theorem left_start (n : Nat) : left (Array.replicate n false) = n := by
 simp [left, Array.toList_replicate]

theorem isL_start (n i : Nat) : ¬ isL (Array.replicate n false) i := by
 unfold isL
 rw [Array.getD_eq_getD_getElem?]
 by_cases h : i < n <;> simp [h]

/-- A region that draws its order: the steps are told in one of its orders. -/
theorem Steps.anyD {P : Program} {F : List AObj → Prop} {ops : Array Oper} {n : Nat} {Q : Exit → Act → World → Prop} {s : St} {ord : List Nat} {ks : List Kd}
  (h : Steps P ops n F ord s ks s') (hd : dOK ops ord ks = true)
  (ha : RAct g n s.env a) (hr : HR g s.H w) (hq : ∀ g' a' w', RAct g' n s'.env a' → HR g' s'.H w' → Ev g s.H w g' s'.H w' → Q .normal a' w') :
  wpAny P .any ops Q ops.size (Array.replicate ops.size false) a { w with drawn := w.drawn + 1 } := by
 have hk := dOK_spec hd
 obtain ⟨sts, val, e1, e2, e4, e3⟩ := h.trace (m := 0)
 simp only [Nat.zero_add, hk.len] at e1 e2 e3 e4
 subst e1
 subst e2
 have T : Tr P ops n F ord ks sts val := ⟨e3, e4⟩
 have hr' : HR g (sts 0).H { w with drawn := w.drawn + 1 } := hr.drew rfl
 have hev : Ev g (sts 0).H w g (sts 0).H { w with drawn := w.drawn + 1 } := Ev.drew rfl rfl rfl rfl (by show w.drawn ≤ w.drawn + 1; omega)
 refine DInv.all (g₀ := g) (w₀ := w) T hk (fun g' a' w' h1 h2 h3 => hq g' a' w' h1 h2 h3) ops.size _ g a _ (by simp) (left_start _) ?_
 exact ⟨fun i _ _ hl => absurd hl (isL_start _ i), ha.size, ha.defers, fun p _ _ hl => absurd hl (isL_start _ _), fun t _ => ha.env t,
  0, Nat.zero_le _, fun p _ _ => ⟨fun hl => absurd hl (isL_start _ _), fun hl => by omega⟩, hr', hev⟩

theorem Steps.regionD {P : Program} {F : List AObj → Prop} (hm : P.follows .mixedOrders = true) {ops : Array Oper} {n : Nat} {Q : Exit → Act → World → Prop} {s : St} {ord : List Nat} {ks : List Kd}
  (h : Steps P ops n F ord s ks s') (hd : dOK ops ord ks = true)
  (ha : RAct g n s.env a) (hr : HR g s.H w) (hq : ∀ g' a' w', RAct g' n s'.env a' → HR g' s'.H w' → Ev g s.H w g' s'.H w' → Q .normal a' w') :
  (Code.region id ops true).wp P Q a w := wp_region_any hm (h.anyD hd ha hr hq)

/-- A region that draws no order. -/
theorem Steps.regionN {P : Program} {F : List AObj → Prop} {ops : Array Oper} {n : Nat} {Q : Exit → Act → World → Prop} {s : St} {ks : List Kd}
  (h : Steps P ops n F (List.range ops.size) s ks s') (ha : RAct g n s.env a) (hr : HR g s.H w)
  (hq : ∀ g' a' w', RAct g' n s'.env a' → HR g' s'.H w' → Ev g s.H w g' s'.H w' → Q .normal a' w') :
  (Code.region id ops false).wp P Q a w := wp_region (h.run ha hr hq)

end
section
variable {a : Act} {s' : St}

inductive AEx where
 | normal
 | exit (id : Nat)
 | goto (l : Nat)
 | ret
 | panic (v : V)

def PanRel (g : Gh) (ch : List PanicEntry) (v : V) : Prop := ∃ x, ch = [{ v := x, recovered := false }] ∧ RV g v x

def ExRel (g : Gh) : Exit → AEx → Prop
 | .normal, .normal => True
 | .exit i, .exit j => i = j
 | .goto i, .goto j => i = j
 | .ret, .ret => True
 | .panic ch, .panic v => PanRel g ch v
 | _, _ => False

/-- Where a function's run began. -/
structure Base where
 g : Gh
 H : List AObj
 w : World

def post (Q : AEx → St → Prop) (n : Nat) (B : Base) : Exit → Act → World → Prop :=
 fun e a w => ∃ g s ae, Q ae s ∧ ExRel g e ae ∧ RAct g n s.env a ∧ HR g s.H w ∧ Ev B.g B.H B.w g s.H w

def AWp (P : Program) (n : Nat) (m : Nat) (c : Code) (Q : AEx → St → Prop) (s : St) : Prop :=
 ∀ (B : Base) g a w, B.H.length = m → B.g.ρ.length = m → RAct g n s.env a → HR g s.H w → Ev B.g B.H B.w g s.H w → c.wp P (post Q n B) a w

section
variable {P : Program} {n m : Nat} {Q : AEx → St → Prop} {s : St}

theorem AWp.skip (h : Q .normal s) : AWp P n m .skip Q s := fun _ g _ _ _ _ h1 h2 h3 => wp_skip ⟨g, s, .normal, h, trivial, h1, h2, h3⟩
theorem AWp.label {l : Nat} (h : Q .normal s) : AWp P n m (.label l) Q s := fun _ g _ _ _ _ h1 h2 h3 => wp_label ⟨g, s, .normal, h, trivial, h1, h2, h3⟩
theorem AWp.exit {id : Nat} (h : Q (.exit id) s) : AWp P n m (.exit id) Q s := fun _ g _ _ _ _ h1 h2 h3 => wp_exit ⟨g, s, .exit id, h, rfl, h1, h2, h3⟩
theorem AWp.goto {l : Nat} (h : Q (.goto l) s) : AWp P n m (.goto l) Q s := fun _ g _ _ _ _ h1 h2 h3 => wp_goto ⟨g, s, .goto l, h, rfl, h1, h2, h3⟩
theorem AWp.ret (h : Q .ret s) : AWp P n m .ret Q s := fun _ g _ _ _ _ h1 h2 h3 => wp_ret ⟨g, s, .ret, h, trivial, h1, h2, h3⟩

theorem AWp.mono {Q' : AEx → St → Prop} {c : Code} (h : AWp P n m c Q s) (hq : ∀ e s, Q e s → Q' e s) : AWp P n m c Q' s :=
 fun B g a w b1 b2 h1 h2 h3 => wp_mono (h B g a w b1 b2 h1 h2 h3) fun _ _ _ ⟨g, s, ae, x, y⟩ => ⟨g, s, ae, hq _ _ x, y⟩

def thenQ (next : St → Prop) (Q : AEx → St → Prop) : AEx → St → Prop
 | .normal, s => next s
 | e, s => Q e s

theorem AWp.seq {x y : Code} (h : AWp P n m x (thenQ (AWp P n m y Q) Q) s) : AWp P n m (.seq x y) Q s := by
 intro B g a w b1 b2 h1 h2 h3
 refine wp_seq (wp_mono (h B g a w b1 b2 h1 h2 h3) ?_)
 rintro e a' w' ⟨g', s', ae, hq, hx, r1, r2, r3⟩
 cases e <;> cases ae <;> simp only [ExRel] at hx <;> try exact hx.elim
 ·exact hq B g' a' w' b1 b2 r1 r2 r3
 ·exact ⟨g', s', _, hq, hx, r1, r2, r3⟩
 ·exact ⟨g', s', _, hq, hx, r1, r2, r3⟩
 ·exact ⟨g', s', _, hq, trivial, r1, r2, r3⟩
 ·exact ⟨g', s', _, hq, hx, r1, r2, r3⟩

theorem RV.bool_eq {g : Gh} {b : Bool} {x : Value} (h : RV g (.bool b) x) : x = .bool b := h.bool_val

theorem RV.int_eq {g : Gh} {i : Int} {x : Value} (h : RV g (.int k i) x) : x = .int k i := by
 have hv2 : RC g (.int k i) x.cells.toList := h.2
 simp only [RC] at hv2
 have ha : valAgg x = false := h.1.symm
 cases x <;> simp_all [Value.cells, valAgg]

theorem AWp.cond {c : Operand} {x y : Code} {b : Bool} (hc : ev s.env c = .bool b) (h1 : b = true → AWp P n m x Q s) (h2 : b = false → AWp P n m y Q s) :
  AWp P n m (.cond c x y) Q s := by
 intro B g a w b1 b2 r1 r2 r3
 have hv := r1.env.ev r2 c
 rw [hc] at hv
 have he := hv.bool_eq
 cases b with
 | true => exact wp_cond he (h1 rfl B g a w b1 b2 r1 r2 r3)
 | false => exact wp_cond he (h2 rfl B g a w b1 b2 r1 r2 r3)

def blockQ (id : Nat) (Q : AEx → St → Prop) : AEx → St → Prop
 | .exit id', s => if id' = id then Q .normal s else Q (.exit id') s
 | e, s => Q e s

theorem AWp.block {id : Nat} {c : Code} (h : AWp P n m c (blockQ id Q) s) : AWp P n m (.block id c) Q s := by
 intro B g a w b1 b2 h1 h2 h3
 refine wp_block (wp_mono (h B g a w b1 b2 h1 h2 h3) ?_)
 rintro e a' w' ⟨g', s', ae, hq, hx, r⟩
 cases e <;> cases ae <;> simp only [ExRel] at hx <;> try exact hx.elim
 ·exact ⟨g', s', _, hq, trivial, r⟩
 ·subst hx
  simp only [Exit.inBlock, blockQ] at hq ⊢
  split <;> rename_i hid
  ·rw [if_pos hid] at hq; exact ⟨g', s', _, hq, trivial, r⟩
  ·rw [if_neg hid] at hq; exact ⟨g', s', _, hq, rfl, r⟩
 ·exact ⟨g', s', _, hq, hx, r⟩
 ·exact ⟨g', s', _, hq, trivial, r⟩
 ·exact ⟨g', s', _, hq, hx, r⟩

def noG (Q : AEx → St → Prop) : AEx → St → Prop
 | .goto _, _ => False
 | e, s => Q e s
/-- A part with labels to which nothing jumps. -/
theorem AWp.scope {c : Code} (h : AWp P n m c (noG Q) s) : AWp P n m (.scope c) Q s := by
 intro B g a w b1 b2 h1 h2 h3
 refine wp_scope_straight (wp_mono (h B g a w b1 b2 h1 h2 h3) ?_)
 rintro e a' w' ⟨g', s', ae, hq, hx, r⟩
 cases e <;> cases ae <;> simp only [ExRel] at hx <;> try exact hx.elim
 ·exact ⟨g', s', _, hq, trivial, r⟩
 ·exact ⟨g', s', _, hq, hx, r⟩
 ·exact hq.elim
 ·exact ⟨g', s', _, hq, trivial, r⟩
 ·exact ⟨g', s', _, hq, hx, r⟩

theorem AWp.region {F : List AObj → Prop} {id : Nat} {ops : Array Oper} {s' : St} {ks : List Kd}
  (h : Steps P ops n F (List.range ops.size) s ks s') (hq : Q .normal s') : AWp P n m (.region id ops false) Q s :=
 fun _ _ _ _ _ _ h1 h2 h3 => h.regionN h1 h2 fun g' _ _ r1 r2 r3 => ⟨g', s', .normal, hq, trivial, r1, r2, h3.trans r3⟩

theorem AWp.regionD {F : List AObj → Prop} (hm : P.follows .mixedOrders = true) {id : Nat} {ops : Array Oper} {s' : St} (ord : List Nat) {ks : List Kd}
  (h : Steps P ops n F ord s ks s') (hd : dOK ops ord ks = true) (hq : Q .normal s') : AWp P n m (.region id ops true) Q s :=
 fun _ _ _ _ _ _ h1 h2 h3 => h.regionD hm hd h1 h2 fun g' _ _ r1 r2 r3 => ⟨g', s', .normal, hq, trivial, r1, r2, h3.trans r3⟩

/-- A loop: by an invariant and a number that falls. -/
theorem AWp.loop {ι : Type} {c : Code} (I : ι → St → Prop) (μ : ι → Nat) (i₀ : ι) (h0 : I i₀ s)
  (round : ∀ i s, I i s → AWp P n m c (thenQ (fun s' => ∃ j, μ j < μ i ∧ I j s') Q) s) : AWp P n m (.loop c) Q s := by
 intro B g a w b1 b2 h1 h2 h3
 let good : Act → World → Nat → Prop := fun a w k => ∃ g s i, μ i = k ∧ I i s ∧ RAct g n s.env a ∧ HR g s.H w ∧ Ev B.g B.H B.w g s.H w
 let lst : Act → World → Nat := fun a w => Classical.epsilon fun k => good a w k ∧ ∀ k', good a w k' → k ≤ k'
 have hl : ∀ a w k, good a w k → good a w (lst a w) ∧ ∀ k', good a w k' → lst a w ≤ k' := by
  intro a w k
  induction k using Nat.strongRecOn with
  | _ k ih =>
   intro hk
   by_cases hex : ∃ k', k' < k ∧ good a w k'
   ·obtain ⟨k', hlt, hk'⟩ := hex
    exact ih k' hlt hk'
   ·exact Classical.epsilon_spec (p := fun k => good a w k ∧ ∀ k', good a w k' → k ≤ k') ⟨k, hk, fun k' hk' => Nat.le_of_not_lt fun hlt => hex ⟨k', hlt, hk'⟩⟩
 refine wp_loop (fun a w => ∃ k, good a w k) lst ⟨_, g, s, i₀, rfl, h0, h1, h2, h3⟩ ?_
 rintro a w ⟨k, hk⟩
 obtain ⟨⟨g, s, i, e, hI, r1, r2, r3⟩, _⟩ := hl a w k hk
 refine wp_mono (round i s hI B g a w b1 b2 r1 r2 r3) ?_
 rintro ex a' w' ⟨g', s', ae, hq, hx, q1, q2, q3⟩
 cases ex <;> cases ae <;> simp only [ExRel] at hx <;> try exact hx.elim
 ·obtain ⟨j, hlt, hj⟩ := hq
  have hg : good a' w' (μ j) := ⟨g', s', j, rfl, hj, q1, q2, q3⟩
  exact ⟨⟨_, hg⟩, by have := (hl a' w' _ hg).2 _ hg; omega⟩
 ·exact ⟨g', s', _, hq, hx, q1, q2, q3⟩
 ·exact ⟨g', s', _, hq, hx, q1, q2, q3⟩
 ·exact ⟨g', s', _, hq, trivial, q1, q2, q3⟩
 ·exact ⟨g', s', _, hq, hx, q1, q2, q3⟩

end

/-- One abstract value tells no more than another one. -/
def V.sub (v v' : V) : Prop := ∀ g x, RV g v x → RV g v' x
theorem V.sub.refl (v : V) : v.sub v := fun _ _ h => h
theorem V.sub.undef (v : V) : v.sub .undef := fun _ _ _ => trivial
theorem V.sub.trans {a b c : V} (h : a.sub b) (k : b.sub c) : a.sub c := fun g x r => k g x (h g x r)

theorem V.sub.nils (e : Nat) : V.sub .nils (.sl e .exact []) := by
 intro g x h
 have h2 : RC g .nils x.cells.toList := h.2
 refine ⟨h.1, ?_⟩
 simp only [RC] at h2 ⊢
 exact ⟨none, 0, h2, by simp, rfl, [], by simp [RCu], fun _ => rfl, fun ad h => by cases h⟩

theorem V.sub.forget (e : Nat) (tk : Tk) (xs : List V) : V.sub (.sl e tk xs) (.sl e .no xs) := by
 intro g x h
 have h2 : RC g (.sl e tk xs) x.cells.toList := h.2
 refine ⟨h.1, ?_⟩
 simp only [RC] at h2 ⊢
 obtain ⟨a, cap, h1, h3, h4, h5⟩ := h2
 exact ⟨a, cap, h1, h3, trivial, h5⟩

theorem V.sub.nils_no (e : Nat) : V.sub .nils (.sl e .no []) := (V.sub.nils e).trans (V.sub.forget e _ _)

def EnvSub (e e' : List (Nat × V)) : Prop := ∀ t, (look e t).sub (look e' t)

theorem EnvSub.refl (e : List (Nat × V)) : EnvSub e e := fun _ => .refl _

theorem EnvSub.of {e : List (Nat × V)} : ∀ {e' : List (Nat × V)}, (∀ p ∈ e', (look e p.1).sub p.2) → EnvSub e e'
 | [], _, _ => .undef _
 | (t', v) :: e', h, t => by
  rw [look_cons]
  split
  ·rename_i heq; subst heq; exact h (t, v) (by simp)
  ·exact EnvSub.of (fun p hp => h p (by simp [hp])) t

theorem RAct.sub {g : Gh} {n : Nat} {e e' : List (Nat × V)} (h : RAct g n e a) (k : EnvSub e e') : RAct g n e' a := ⟨fun t => k t g _ (h.env t), h.size, h.defers⟩

/-- Whatever is as the first state says is as the second one says. -/
def Wk (n m : Nat) (s s' : St) : Prop :=
 ∀ (B : Base) g a w, B.H.length = m → B.g.ρ.length = m → RAct g n s.env a → HR g s.H w → Ev B.g B.H B.w g s.H w →
  ∃ g', RAct g' n s'.env a ∧ HR g' s'.H w ∧ Ev B.g B.H B.w g' s'.H w

theorem Wk.refl {n m : Nat} (s : St) : Wk n m s s := fun _ g _ _ _ _ h1 h2 h3 => ⟨g, h1, h2, h3⟩
theorem Wk.trans {n m : Nat} {s s'' : St} (h : Wk n m s s') (k : Wk n m s' s'') : Wk n m s s'' := fun B g a w b1 b2 h1 h2 h3 =>
 let ⟨g', q1, q2, q3⟩ := h B g a w b1 b2 h1 h2 h3
 k B g' a w b1 b2 q1 q2 q3

theorem AWp.wk {P : Program} {n m : Nat} {Q : AEx → St → Prop} {s : St} {c : Code} (k : Wk n m s s') (h : AWp P n m c Q s') : AWp P n m c Q s :=
 fun B g a w b1 b2 h1 h2 h3 => let ⟨g', q1, q2, q3⟩ := k B g a w b1 b2 h1 h2 h3; h B g' a w b1 b2 q1 q2 q3

theorem Wk.keep {n m : Nat} {env env' : List (Nat × V)} {H : List AObj} (k : EnvSub env env') : Wk n m ⟨env, H⟩ ⟨env', H⟩ :=
 fun _ g _ _ _ _ h1 h2 h3 => ⟨g, h1.sub k, h2, h3⟩

theorem AWp.keep {P : Program} {n m : Nat} {Q : AEx → St → Prop} {s : St} {c : Code} (env' : List (Nat × V)) (k : EnvSub s.env env') (h : AWp P n m c Q ⟨env', s.H⟩) : AWp P n m c Q s :=
 .wk (.keep k) h

/-! Calls. -/

inductive Out where
 | ret (v : V)
 | pan (v : V)

def RVs (g : Gh) : List V → List Value → Prop
 | [], xs => xs = []
 | v :: vs, xs => ∃ x r, xs = x :: r ∧ RV g v x ∧ RVs g vs r

theorem RVs.mono {g g' : Gh} (h : g.le g') : ∀ {vs : List V} {xs : List Value}, RVs g vs xs → RVs g' vs xs
 | [], _, k => k
 | _ :: _, _, k => by
  obtain ⟨x, r, h1, h2, h3⟩ := k
  exact ⟨x, r, h1, h2.mono h, RVs.mono h h3⟩

def OutRel (g : Gh) : Ending → Out → Prop
 | .returned x, .ret v => RV g v x
 | .panicked ch, .pan v => PanRel g ch v
 | _, _ => False

def CallSpec (P : Program) (f : FuncId) (args : List V) (H : List AObj) (R : Out → List AObj → Prop) : Prop :=
 ∀ g w (xs : List Value), RVs g args xs → HR g H w → Calls P f xs.toArray w fun e w' => ∃ g' H' o, R o H' ∧ OutRel g' e o ∧ HR g' H' w' ∧ Ev g H w g' H' w'

theorem CallSpec.mono {P : Program} {f : FuncId} {args : List V} {H : List AObj} {R R' : Out → List AObj → Prop} (h : CallSpec P f args H R) (k : ∀ o H', R o H' → R' o H') : CallSpec P f args H R' :=
 fun g w xs h1 h2 => (h g w xs h1 h2).mono fun _ _ ⟨g', H', o, r, x⟩ => ⟨g', H', o, k _ _ r, x⟩

inductive SubL : List V → List V → Prop where
 | nil : SubL [] []
 | cons {v v' : V} {vs vs' : List V} (h : v.sub v') (t : SubL vs vs') : SubL (v :: vs) (v' :: vs')

theorem SubL.refl : ∀ (l : List V), SubL l l
 | [] => .nil
 | v :: l => .cons (.refl v) (SubL.refl l)

theorem RVs.sub {g : Gh} {vs vs' : List V} (h : SubL vs vs') : ∀ {xs : List Value}, RVs g vs xs → RVs g vs' xs := by
 induction h with
 | nil => exact fun h => h
 | cons h _ ih =>
  rintro xs ⟨x, r, h1, h2, h3⟩
  exact ⟨x, r, h1, h _ _ h2, ih h3⟩

theorem CallSpec.sub {P : Program} {f : FuncId} {args args' : List V} {H : List AObj} {R : Out → List AObj → Prop} (h : CallSpec P f args' H R) (k : SubL args args') : CallSpec P f args H R :=
 fun g w xs h1 h2 => h g w xs (h1.sub k) h2

/-- The first so many numbers of objects alone are named. -/
def Tk.lt (m : Nat) : Tk → Bool
 | .tok o => Nat.blt o m
 | _ => true

mutual
def V.lt (m : Nat) : V → Bool
 | .ptr o _ _ => Nat.blt o m
 | .cptr v => v.lt m
 | .sl _ tk xs => tk.lt m && V.ltL m xs
 | .slo _ o _ _ _ _ _ => Nat.blt o m
 | .fn _ a b => V.ltL m a && V.ltL m b
 | .ifc _ v => v.lt m
 | .st vs => V.ltL m vs
 | .arr _ vs => V.ltL m vs
 | .tup vs => V.ltL m vs
 | .map o => Nat.blt o m
 | _ => true
def V.ltL (m : Nat) : List V → Bool
 | [] => true
 | v :: vs => v.lt m && V.ltL m vs
end

structure Gh.alike (m : Nat) (g g' : Gh) : Prop where
 imm : ∀ b i x, g.I b i = some x → g'.I b i = some x
 pre : ∀ (o : Nat) p, o < m → g.ρ[o]? = some p → g'.ρ[o]? = some p

theorem Tk.ok.alike {m : Nat} {g g' : Gh} (h : g.alike m g') {e : Nat} {tk : Tk} {a : Option Addr} {len cap : Nat} (hl : tk.lt m = true) (k : tk.ok g e a len cap) : tk.ok g' e a len cap := by
 cases tk with
 | no => trivial
 | nn => exact k
 | exact => exact k
 | tok o =>
  rcases k with k | ⟨p, ad, h1, h2⟩
  ·exact .inl k
  ·exact .inr ⟨p, ad, h.pre _ _ (Eq.mp Nat.blt_eq hl) h1, h2⟩

theorem Gh.holds.alike {m : Nat} {g g' : Gh} (h : g.alike m g') {a : Addr} {cs : List Value} (k : g.holds a cs) : g'.holds a cs := fun i x hx => h.imm _ _ _ (k i x hx)

mutual
theorem RC.alike {m : Nat} {g g' : Gh} (h : g.alike m g') : ∀ {v : V} {cs : List Value}, v.lt m = true → RC g v cs → RC g' v cs
 | .bool _, _, _, k => by simpa only [RC] using k
 | .int _ _, _, _, k => by simpa only [RC] using k
 | .str _, _, _, k => by simpa only [RC] using k
 | .nilp, _, _, k => by simpa only [RC] using k
 | .ptr _ _ _, _, hl, k => by
  simp only [RC] at k ⊢
  obtain ⟨p, h1, h2⟩ := k
  exact ⟨p, h.pre _ _ (Eq.mp Nat.blt_eq (by simpa only [V.lt] using hl)) h1, h2⟩
 | .cptr _, _, hl, k => by
  simp only [RC] at k ⊢
  obtain ⟨a, c, h1, h2, h3, h4⟩ := k
  exact ⟨a, c, h1, h2, RC.alike h (by simpa only [V.lt] using hl) h3, h4.alike h⟩
 | .nils, _, _, k => by simpa only [RC] using k
 | .sl _ _ _, _, hl, k => by
  simp only [V.lt, Bool.and_eq_true] at hl
  simp only [RC] at k ⊢
  obtain ⟨a, cap, h1, h2, h3, c, h4, h5, h6⟩ := k
  exact ⟨a, cap, h1, h2, h3.alike h hl.1, c, RCu.alike h hl.2 h4, h5, fun ad e => ⟨(h6 ad e).1, (h6 ad e).2.alike h⟩⟩
 | .slo _ _ _ _ _ _ _, _, hl, k => by
  simp only [RC] at k ⊢
  obtain ⟨p, h1, h2⟩ := k
  exact ⟨p, h.pre _ _ (Eq.mp Nat.blt_eq (by simpa only [V.lt] using hl)) h1, h2⟩
 | .fn _ _ _, _, hl, k => by
  simp only [V.lt, Bool.and_eq_true] at hl
  simp only [RC] at k ⊢
  obtain ⟨a, b, h1, h2, h3⟩ := k
  exact ⟨a, b, h1, RVl.alike h hl.1 h2, RVl.alike h hl.2 h3⟩
 | .nilfn, _, _, k => by simpa only [RC] using k
 | .ifc _ _, _, hl, k => by
  simp only [RC] at k ⊢
  obtain ⟨x, h1, h2, h3⟩ := k
  exact ⟨x, h1, h2, RC.alike h (by simpa only [V.lt] using hl) h3⟩
 | .nili, _, _, k => by simpa only [RC] using k
 | .st _, _, hl, k => by
  simp only [RC] at k ⊢
  exact RCs.alike h (by simpa only [V.lt] using hl) k
 | .arr _ _, _, hl, k => by
  simp only [RC] at k ⊢
  exact RCu.alike h (by simpa only [V.lt] using hl) k
 | .tup _, _, _, k => by simp only [RC] at k
 | .map _, _, hl, k => by
  simp only [RC] at k ⊢
  obtain ⟨p, h1, h2⟩ := k
  exact ⟨p, h.pre _ _ (Eq.mp Nat.blt_eq (by simpa only [V.lt] using hl)) h1, h2⟩
 | .nilmap, _, _, k => by simpa only [RC] using k
 | .undef, _, _, k => by simp only [RC] at k
theorem RCs.alike {m : Nat} {g g' : Gh} (h : g.alike m g') : ∀ {vs : List V} {cs : List Value}, V.ltL m vs = true → RCs g vs cs → RCs g' vs cs
 | [], _, _, k => by simpa only [RCs] using k
 | _ :: _, _, hl, k => by
  simp only [V.ltL, Bool.and_eq_true] at hl
  simp only [RCs] at k ⊢
  obtain ⟨a, b, h1, h2, h3⟩ := k
  exact ⟨a, b, h1, RC.alike h hl.1 h2, RCs.alike h hl.2 h3⟩
theorem RCu.alike {m : Nat} {g g' : Gh} (h : g.alike m g') : ∀ {e : Nat} {vs : List V} {cs : List Value}, V.ltL m vs = true → RCu g e vs cs → RCu g' e vs cs
 | _, [], _, _, k => by simpa only [RCu] using k
 | _, _ :: _, _, hl, k => by
  simp only [V.ltL, Bool.and_eq_true] at hl
  simp only [RCu] at k ⊢
  obtain ⟨a, b, h1, h0, h2, h3⟩ := k
  exact ⟨a, b, h1, h0, RC.alike h hl.1 h2, RCu.alike h hl.2 h3⟩
theorem RVl.alike {m : Nat} {g g' : Gh} (h : g.alike m g') : ∀ {vs : List V} {cs : List Value}, V.ltL m vs = true → RVl g vs cs → RVl g' vs cs
 | [], _, _, k => by simpa only [RVl] using k
 | _ :: _, _, hl, k => by
  simp only [V.ltL, Bool.and_eq_true] at hl
  simp only [RVl] at k ⊢
  obtain ⟨a, b, h1, h0, h2, h3⟩ := k
  exact ⟨a, b, h1, h0, RC.alike h hl.1 h2, RVl.alike h hl.2 h3⟩
end

theorem RV.alike {m : Nat} {g g' : Gh} (h : g.alike m g') {v : V} {x : Value} (hl : v.lt m = true) (k : RV g v x) : RV g' v x := by
 cases v <;> first
  | trivial
  | (simp only [V.lt] at hl; obtain ⟨xs, e, k⟩ := k; exact ⟨xs, e, k.alike h hl⟩)
  | exact ⟨k.1, k.2.alike h hl⟩

theorem RVs.alike {m : Nat} {g g' : Gh} (h : g.alike m g') : ∀ {vs : List V} {xs : List Value}, V.ltL m vs = true → RVs g vs xs → RVs g' vs xs
 | [], _, _, k => k
 | _ :: _, _, hl, k => by
  simp only [V.ltL, Bool.and_eq_true] at hl
  obtain ⟨x, r, h1, h2, h3⟩ := k
  exact ⟨x, r, h1, h2.alike h hl.1, RVs.alike h hl.2 h3⟩

def esLt (m : Nat) : List (V × V) → Bool
 | [] => true
 | kv :: r => kv.1.lt m && kv.2.lt m && esLt m r

def AObj.lt (m : Nat) : AObj → Bool
 | .cells v => v.lt m
 | .buf _ vs => V.ltL m vs
 | .map es => esLt m es
 | _ => true

theorem REs.alike {m : Nat} {g g' : Gh} (h : g.alike m g') : ∀ {es : List (V × V)} {l : List MapEntry}, esLt m es = true → REs g es l → REs g' es l
 | [], _, _, k => k
 | _ :: _, _, hl, k => by
  simp only [esLt, Bool.and_eq_true] at hl
  obtain ⟨e, es, h1, h2, h3, h4⟩ := k
  exact ⟨e, es, h1, h2.alike h hl.1.1, h3.alike h hl.1.2, REs.alike h hl.2 h4⟩

def Out.lt (m : Nat) : Out → Bool
 | .ret v => v.lt m
 | .pan v => v.lt m

theorem OutRel.alike {m : Nat} {g g' : Gh} (h : g.alike m g') {e : Ending} {o : Out} (hl : o.lt m = true) (k : OutRel g e o) : OutRel g' e o := by
 cases e <;> cases o <;> simp only [OutRel] at k ⊢
 ·exact k.alike h hl
 ·obtain ⟨x, h1, h2⟩ := k
  exact ⟨x, h1, h2.alike h hl⟩

/-- A function that is handed no object of the caller's, and hands none out: with whatever objects there are. -/
theorem CallSpec.frame {P : Program} {f : FuncId} {args : List V} {R : Out → List AObj → Prop} (h : CallSpec P f args [] R) (ha : V.ltL 0 args = true) (hR : ∀ o H', R o H' → o.lt 0 = true) (H : List AObj) :
  CallSpec P f args H fun o H' => (∃ H₀, R o H₀) ∧ H' = H := by
 intro g w xs hx hr
 have al : g.alike 0 { I := g.I, ρ := [] } := ⟨fun _ _ _ h => h, fun o p h => by omega⟩
 have hr0 : HR { I := g.I, ρ := [] } [] w := ⟨hr.agree, rfl, fun o p ob h => by simp at h, fun o o' p p' ob ob' h => by simp at h, hr.gl⟩
 refine (h _ w xs (hx.alike al ha) hr0).mono ?_
 rintro e w' ⟨g', H', o, hRo, ho, hr', hev⟩
 have nolv : ∀ b, ¬ Lv { I := g.I, ρ := [] } [] b := by rintro b ⟨o, p, ob, h, _⟩; simp at h
 have le : g.le { I := g'.I, ρ := g.ρ } := ⟨fun b i x hx => hev.le.imm b i x hx, fun _ _ h => h⟩
 refine ⟨{ I := g'.I, ρ := g.ρ }, H, o, ⟨⟨H', hRo⟩, rfl⟩, OutRel.alike (m := 0) (g := g') (g' := { I := g'.I, ρ := g.ρ }) ⟨fun _ _ _ h => h, fun o p h => by omega⟩ (hR o H' hRo) ho, ⟨hr'.agree, hr.len, ?_, hr.inj, hr'.gl⟩, ⟨le, hev.os, hev.tape, hev.output, hev.size, hev.drawn, ?_, ?_, fun b hb => .inl hb⟩⟩
 ·intro a p ob h1 h2
  cases hlive : p.own ob with
  | false => exact (hr.obj a p ob h1 h2).free hlive
  | true =>
   have hb := (hr.obj a p ob h1 h2).inb hlive
   exact (hr.obj a p ob h1 h2).keep le (hev.keep _ hb (nolv _)) (fun i => hev.imm _ i hb (nolv _))
 ·exact fun b hb _ => hev.keep b hb (nolv _)
 ·exact fun b i hb _ => hev.imm b i hb (nolv _)

/-- What was made since is no longer spoken of. -/
theorem HR.take {g : Gh} {H : List AObj} {w : World} (h : HR g H w) (m : Nat) (hl : ∀ ob ∈ H.take m, ob.lt m = true) : HR { g with ρ := g.ρ.take m } (H.take m) w := by
 have al : g.alike m { g with ρ := g.ρ.take m } := ⟨fun _ _ _ h => h, fun o p ho hp => by
  show (g.ρ.take m)[o]? = some p
  rw [List.getElem?_take_of_lt ho]; exact hp⟩
 have low : ∀ {α : Type} (l : List α) (o : Nat) (x : α), (l.take m)[o]? = some x → o < m ∧ l[o]? = some x := by
  intro α l o x hx
  rw [List.getElem?_take] at hx
  split at hx
  ·rename_i hlt; exact ⟨hlt, hx⟩
  ·cases hx
 refine ⟨h.agree, by simp [h.len], ?_, ?_, h.gl⟩
 ·intro o p ob h1 h2
  obtain ⟨ho, h1'⟩ := low _ o p h1
  have hob := hl ob (List.mem_of_getElem? h2)
  obtain ⟨_, h2'⟩ := low _ o ob h2
  have := h.obj o p ob h1' h2'
  cases ob with
  | cells v => obtain ⟨cs, ty, q1, ⟨j, q2, q3⟩, q4⟩ := this; exact ⟨cs, ty, q1, ⟨j, q2, q3.alike al (by simpa only [AObj.lt] using hob)⟩, q4⟩
  | buf e vs =>
   rcases this with x | ⟨q0, cs, ty, q1, ⟨c, j, q2, q3⟩, q4⟩
   ·exact .inl x
   ·exact .inr ⟨q0, cs, ty, q1, ⟨c, j, q2, q3.alike al (by simpa only [AObj.lt] using hob)⟩, q4⟩
  | tail => exact this
  | map es => obtain ⟨en, c, q1, q2, q3⟩ := this; exact ⟨en, c, q1, q2.alike al (by simpa only [AObj.lt] using hob), q3⟩
  | dead => trivial
 ·intro a a' q q' ob1 ob2 h1 h1' h2 h2' l1 l2 e
  exact h.inj a a' q q' ob1 ob2 (low _ _ _ h1).2 (low _ _ _ h1').2 (low _ _ _ h2).2 (low _ _ _ h2').2 l1 l2 e

theorem Ev.take {B : Base} {g : Gh} {H : List AObj} {w : World} {m : Nat} (h : Ev B.g B.H B.w g H w) (hm : B.g.ρ.length ≤ m) : Ev B.g B.H B.w { g with ρ := g.ρ.take m } (H.take m) w where
 le := ⟨h.le.imm, fun o p hp => by
  show (g.ρ.take m)[o]? = some p
  rw [List.getElem?_take_of_lt (by have := (List.getElem?_eq_some_iff.1 hp).1; omega)]
  exact h.le.pre o p hp⟩
 os := h.os
 tape := h.tape
 output := h.output
 size := h.size
 drawn := h.drawn
 keep := h.keep
 imm := h.imm
 live b hb := by
  obtain ⟨o, p, ob, h1, h2, h3⟩ := hb
  have h1' : g.ρ[o]? = some p := by
   have h1 : (g.ρ.take m)[o]? = some p := h1
   rw [List.getElem?_take] at h1
   split at h1
   ·exact h1
   ·cases h1
  have h2' : H[o]? = some ob := by
   rw [List.getElem?_take] at h2
   split at h2
   ·exact h2
   ·cases h2
  exact h.live b ⟨o, p, ob, h1', h2', h3⟩

def envLt (m : Nat) : List (Nat × V) → Bool
 | [] => true
 | p :: r => p.2.lt m && envLt m r

theorem envLt.look {m : Nat} : ∀ {e : List (Nat × V)}, envLt m e = true → ∀ t, (look e t).lt m = true
 | [], _, _ => rfl
 | (t', v) :: e, h, t => by
  simp only [envLt, Bool.and_eq_true] at h
  rw [look_cons]
  split
  ·exact h.1
  ·exact envLt.look (e := e) h.2 t

def objsLt (m : Nat) : List AObj → Bool
 | [] => true
 | ob :: r => ob.lt m && objsLt m r

theorem objsLt.mem {m : Nat} : ∀ {l : List AObj}, objsLt m l = true → ∀ ob ∈ l, ob.lt m = true
 | [], _, _, h => by cases h
 | x :: l, h, ob, hm => by
  simp only [objsLt, Bool.and_eq_true] at h
  rcases List.mem_cons.1 hm with rfl | hm
  ·exact h.1
  ·exact objsLt.mem h.2 ob hm

/-- Objects that nothing names any more are left out. -/
theorem Wk.trunc {n m : Nat} {env : List (Nat × V)} {H : List AObj} (k : Nat) (hk : m ≤ k) (he : envLt k env = true) (hH : objsLt k (H.take k) = true) : Wk n m ⟨env, H⟩ ⟨env, H.take k⟩ := by
 intro B g a w b1 b2 h1 h2 h3
 have al : g.alike k { g with ρ := g.ρ.take k } := ⟨fun _ _ _ h => h, fun o p ho hp => by
  show (g.ρ.take k)[o]? = some p
  rw [List.getElem?_take_of_lt ho]; exact hp⟩
 exact ⟨_, ⟨fun t => (h1.env t).alike al (envLt.look he t), h1.size, h1.defers⟩, h2.take k (objsLt.mem hH), h3.take (by omega)⟩

/-- A loop: states told by a parameter, and a number that falls. -/
theorem AWp.loopS {P : Program} {n m : Nat} {Q : AEx → St → Prop} {s : St} {c : Code} {ι : Type} (S : ι → St) (μ : ι → Nat) (i₀ : ι) (h0 : Wk n m s (S i₀))
  (round : ∀ i, AWp P n m c (thenQ (fun s' => ∃ j, μ j < μ i ∧ Wk n m s' (S j)) Q) (S i)) : AWp P n m (.loop c) Q s :=
 .loop (fun i s => Wk n m s (S i)) μ i₀ h0 fun i _ hw => .wk hw (round i)

/-- Where several ways meet again. -/
theorem AWp.cut {P : Program} {n m : Nat} {Q : AEx → St → Prop} {s : St} {x y : Code} {ι : Type} (S : ι → St) (h : AWp P n m x (thenQ (fun s' => ∃ i, Wk n m s' (S i)) Q) s) (k : ∀ i, AWp P n m y Q (S i)) : AWp P n m (.seq x y) Q s :=
 .seq (h.mono fun e s' hq => by
  cases e with
  | normal => obtain ⟨i, hi⟩ := hq; exact .wk hi (k i)
  | _ => exact hq)

theorem thenQ_n {next : St → Prop} {Q : AEx → St → Prop} {s : St} (h : next s) : thenQ next Q .normal s := h
theorem thenQ_x {next : St → Prop} {Q : AEx → St → Prop} {s : St} (h : Q (.exit i) s) : thenQ next Q (.exit i) s := h
theorem thenQ_r {next : St → Prop} {Q : AEx → St → Prop} {s : St} (h : Q .ret s) : thenQ next Q .ret s := h
theorem thenQ_p {next : St → Prop} {Q : AEx → St → Prop} {s : St} {v : V} (h : Q (.panic v) s) : thenQ next Q (.panic v) s := h
theorem blockQ_n {Q : AEx → St → Prop} {s : St} (h : Q .normal s) : blockQ id Q .normal s := h
theorem blockQ_x {Q : AEx → St → Prop} {s : St} (h : Q .normal s) : blockQ id Q (.exit id) s := by simp only [blockQ, if_true]; exact h
theorem blockQ_o {Q : AEx → St → Prop} {s : St} (hne : (Nat.beq i id) = false) (h : Q (.exit i) s) : blockQ id Q (.exit i) s := by
 simp only [blockQ]
 rw [if_neg (fun e => by subst e; simp at hne)]
 exact h
theorem blockQ_r {Q : AEx → St → Prop} {s : St} (h : Q .ret s) : blockQ id Q .ret s := h
theorem blockQ_p {Q : AEx → St → Prop} {s : St} {v : V} (h : Q (.panic v) s) : blockQ id Q (.panic v) s := h

/-! A function's body. -/

def argEnv : Nat → List V → List (Nat × V)
 | _, [] => []
 | i, v :: vs => (i, v) :: argEnv (i + 1) vs

theorem argEnv_look : ∀ (vs : List V) (xs : List Value) (i : Nat) (g : Gh), RVs g vs xs → ∀ t, RV g (look (argEnv i vs) t) (if t < i then Go.undef else xs.getD (t - i) Go.undef)
 | [], _, _, _, _, _ => trivial
 | v :: vs, xs, i, g, h, t => by
  obtain ⟨x, r, rfl, h2, h3⟩ := h
  simp only [argEnv, look_cons]
  split
  ·rename_i e; subst e; simpa using h2
  ·rename_i e
   have := argEnv_look vs r (i + 1) g h3 t
   by_cases hl : t < i
   ·rw [if_pos hl]; rw [if_pos (by omega)] at this; exact this
   ·rw [if_neg hl]; rw [if_neg (by omega)] at this
    rw [show t - i = (t - (i + 1)) + 1 from by omega, List.getD_cons_succ]
    exact this

theorem RVs.len {g : Gh} : ∀ {vs : List V} {xs : List Value}, RVs g vs xs → xs.length = vs.length
 | [], _, h => by simp only [RVs] at h; subst h; rfl
 | _ :: _, _, h => by obtain ⟨x, r, rfl, _, h3⟩ := h; simp [h3.len]

/-- What a function hands out, once it is through. -/
def ResOK (P : Program) (fn : Func) (n : Nat) (s : St) (v : V) : Prop :=
 ∀ g a w, RAct g n s.env a → HR g s.H w → ∃ x, (results fn a.tmps).run P w = .ok x w ∧ RV g v x

/-- Calls that the row of a law wants. -/
theorem CallSpec.calls {P : Program} {f : FuncId} {args : List V} {v : V} (h : CallSpec P f args [] fun o _ => o = .ret v) {g : Gh} {xs : List Value} (hρ : g.ρ = []) (hx : RVs g args xs)
  (ha : ∀ b i x, g.I b i = some x → w.cell? ⟨b, i, none⟩ = some x) (hg : ∀ (i : Nat) n, glL[i]? = some n → g.I glB i = some (.int .u32 n)) :
  Calls P f xs.toArray w fun e w' => ∃ x g', e = .returned x ∧ RV g' v x ∧ RowKit.Below w.heap.size w w' := by
 refine (h g w xs hx ⟨ha, by simp [hρ], fun o p ob h => by simp [hρ] at h, fun o o' p p' ob ob' h => by simp [hρ] at h, hg⟩).mono ?_
 rintro e w' ⟨g', H', o, rfl, ho, hr', hev⟩
 cases e <;> simp only [OutRel] at ho
 refine ⟨_, g', rfl, ho, ⟨hev.os, hev.tape, hev.output, hev.size, fun k hk => hev.keep k hk ?_⟩⟩
 rintro ⟨o, p, ob, h, _⟩
 simp [hρ] at h

end
section
variable {v : V} {g : Gh}

/-! What is asked of the program's types. -/

def szOf (P : Program) (t : TypeId) : Option Nat := (P.info? t).map (·.size)
def descAgg : TypeDesc → Bool
 | .struct _ => true
 | .array _ _ => true
 | _ => false
def aggOf (P : Program) (t : TypeId) : Option Bool := (P.underlying t).map descAgg
def layOf (P : Program) (t : TypeId) : Option (List (Nat × Nat × Bool)) :=
 match P.underlying t with
 | some (.struct fs) => fs.toList.mapM fun f => match szOf P f.type, aggOf P f.type with
  | some n, some b => some (f.offset, n, b)
  | _, _ => none
 | _ => none
def arrOf (P : Program) (t : TypeId) : Option (Nat × Nat × Bool) :=
 match P.underlying t with
 | some (.array len e) => match szOf P e, aggOf P e with
  | some n, some b => some (len, n, b)
  | _, _ => none
 | _ => none
def sliOf (P : Program) (t : TypeId) : Option (TypeId × Nat × Bool × Nat) :=
 match P.underlying t with
 | some (.slice e) => match szOf P e, aggOf P e with
  | some n, some b => some (e, n, b, ((P.info? e).map (·.bytes)).getD 0)
  | _, _ => none
 | _ => none

theorem run_sizeOf' {P : Program} {t : TypeId} {n : Nat} (h : szOf P t = some n) (w : World) : (sizeOf t).run P w = .ok n w := by
 unfold szOf at h
 cases hi : P.info? t with
 | none => simp [hi] at h
 | some i =>
  simp only [hi, Option.map_some, Option.some.injEq] at h
  simp [sizeOf, typeInfo, hi, h]

theorem run_isAgg' {P : Program} {t : TypeId} {b : Bool} (h : aggOf P t = some b) (w : World) : (isAgg t).run P w = .ok b w := by
 unfold aggOf at h
 cases hi : P.underlying t with
 | none => simp [hi] at h
 | some d =>
  simp only [hi, Option.map_some, Option.some.injEq] at h
  subst h
  unfold isAgg
  rw [Sem.run_bind, run_underlying hi]
  cases d <;> rfl

theorem mapM_get {α β : Type} {f : α → Option β} : ∀ {l : List α} {l' : List β}, l.mapM f = some l' → ∀ {k : Nat} {y : β}, l'[k]? = some y → ∃ x, l[k]? = some x ∧ f x = some y
 | [], l', h, k, y, hk => by simp at h; subst h; simp at hk
 | a :: l, l', h, k, y, hk => by
  rw [List.mapM_cons] at h
  cases ha : f a with
  | none => simp [ha] at h
  | some b =>
   cases hl : l.mapM f with
   | none => simp [ha, hl] at h
   | some r =>
    simp [ha, hl] at h
    subst h
    cases k with
    | zero => simp at hk; subst hk; exact ⟨a, rfl, ha⟩
    | succ k => simp at hk; exact mapM_get hl hk

theorem layOf_get {P : Program} {t : TypeId} {l : List (Nat × Nat × Bool)} (h : layOf P t = some l) {k off n : Nat} {b : Bool} (hk : l[k]? = some (off, n, b)) :
  ∃ (fs : Array Field) (f : Field), P.underlying t = some (.struct fs) ∧ fs[k]? = some f ∧ f.offset = off ∧ szOf P f.type = some n ∧ aggOf P f.type = some b := by
 unfold layOf at h
 split at h
 ·rename_i fs hu
  obtain ⟨f, h1, h2⟩ := mapM_get h hk
  refine ⟨fs, f, hu, by simpa using h1, ?_⟩
  split at h2
  ·simp only [Option.some.injEq, Prod.mk.injEq] at h2
   obtain ⟨rfl, rfl, rfl⟩ := h2
   exact ⟨rfl, by assumption, by assumption⟩
  ·cases h2
 ·cases h

theorem arrOf_get {P : Program} {t : TypeId} {len n : Nat} {b : Bool} (h : arrOf P t = some (len, n, b)) : ∃ e, P.underlying t = some (.array len e) ∧ szOf P e = some n ∧ aggOf P e = some b := by
 unfold arrOf at h
 split at h
 ·rename_i len' e hu
  split at h
  ·simp only [Option.some.injEq, Prod.mk.injEq] at h
   obtain ⟨rfl, rfl, rfl⟩ := h
   exact ⟨e, hu, by assumption, by assumption⟩
  ·cases h
 ·cases h

theorem sliOf_get {P : Program} {t e : TypeId} {n : Nat} {b : Bool} (h : sliOf P t = some (e, n, b, by_)) :
  P.underlying t = some (.slice e) ∧ szOf P e = some n ∧ aggOf P e = some b ∧ ((P.info? e).map (·.bytes)).getD 0 = by_ := by
 unfold sliOf at h
 split at h
 ·rename_i e' hu
  split at h
  ·simp only [Option.some.injEq, Prod.mk.injEq] at h
   obtain ⟨rfl, rfl, rfl, rfl⟩ := h
   exact ⟨hu, by assumption, by assumption, rfl⟩
  ·cases h
 ·cases h

mutual
def litV : V → Option (List Value)
 | .bool b => some [.bool b]
 | .int k n => some [.int k n]
 | .str s => some [.string s]
 | .nilp => some [.pointer none]
 | .nils => some [.slice none 0 0]
 | .nilfn => some [.nilFunc]
 | .nili => some [.nilIface]
 | .nilmap => some [.map none]
 | .st vs => litS vs
 | .arr e vs => litU e vs
 | _ => none
def litS : List V → Option (List Value)
 | [] => some []
 | v :: vs => match litV v, litS vs with
  | some a, some b => some (a ++ b)
  | _, _ => none
def litU (e : Nat) : List V → Option (List Value)
 | [] => some []
 | v :: vs => match litV v, litU e vs with
  | some a, some b => if a.length = e then some (a ++ b) else none
  | _, _ => none
end

mutual
theorem litV_rc (g : Gh) : ∀ {v : V} {cs : List Value}, litV v = some cs → RC g v cs
 | .bool _, _, h => by simp only [litV, Option.some.injEq] at h; simp only [RC]; exact h.symm
 | .int _ _, _, h => by simp only [litV, Option.some.injEq] at h; simp only [RC]; exact h.symm
 | .str _, _, h => by simp only [litV, Option.some.injEq] at h; simp only [RC]; exact h.symm
 | .nilp, _, h => by simp only [litV, Option.some.injEq] at h; simp only [RC]; exact h.symm
 | .nils, _, h => by simp only [litV, Option.some.injEq] at h; simp only [RC]; exact h.symm
 | .nilfn, _, h => by simp only [litV, Option.some.injEq] at h; simp only [RC]; exact h.symm
 | .nili, _, h => by simp only [litV, Option.some.injEq] at h; simp only [RC]; exact h.symm
 | .nilmap, _, h => by simp only [litV, Option.some.injEq] at h; simp only [RC]; exact h.symm
 | .st _, _, h => by simp only [litV] at h; simp only [RC]; exact litS_rc g h
 | .arr _ _, _, h => by simp only [litV] at h; simp only [RC]; exact litU_rc g h
 | .ptr _ _ _, _, h => by simp only [litV] at h; cases h
 | .cptr _, _, h => by simp only [litV] at h; cases h
 | .sl _ _ _, _, h => by simp only [litV] at h; cases h
 | .slo _ _ _ _ _ _ _, _, h => by simp only [litV] at h; cases h
 | .fn _ _ _, _, h => by simp only [litV] at h; cases h
 | .ifc _ _, _, h => by simp only [litV] at h; cases h
 | .tup _, _, h => by simp only [litV] at h; cases h
 | .map _, _, h => by simp only [litV] at h; cases h
 | .undef, _, h => by simp only [litV] at h; cases h
theorem litS_rc (g : Gh) : ∀ {vs : List V} {cs : List Value}, litS vs = some cs → RCs g vs cs
 | [], _, h => by simp only [litS, Option.some.injEq] at h; simp only [RCs]; exact h.symm
 | v :: vs, _, h => by
  simp only [litS] at h
  split at h
  ·rename_i a b h1 h2
   simp only [Option.some.injEq] at h
   simp only [RCs]
   exact ⟨a, b, h.symm, litV_rc g h1, litS_rc g h2⟩
  ·cases h
theorem litU_rc (g : Gh) : ∀ {e : Nat} {vs : List V} {cs : List Value}, litU e vs = some cs → RCu g e vs cs
 | _, [], _, h => by simp only [litU, Option.some.injEq] at h; simp only [RCu]; exact h.symm
 | _, v :: vs, _, h => by
  simp only [litU] at h
  split at h
  ·rename_i a b h1 h2
   split at h
   ·rename_i hl
    simp only [Option.some.injEq] at h
    simp only [RCu]
    exact ⟨a, b, h.symm, hl, litV_rc g h1, litU_rc g h2⟩
   ·cases h
  ·cases h
end

/-- The zero value of a type. -/
def ZeroV (P : Program) (t : TypeId) (z : V) : Prop := ∃ val, (P.info? t).bind (·.zero) = some val ∧ z.isAgg = valAgg val ∧ litV z = some val.cells.toList

theorem ZeroV.run {P : Program} {t : TypeId} {z : V} (h : ZeroV P t z) (w : World) (g : Gh) : ∃ val, (zeroValue t).run P w = .ok val w ∧ RC g z val.cells.toList ∧ z.isAgg = valAgg val := by
 obtain ⟨val, h1, h2, h3⟩ := h
 refine ⟨val, ?_, litV_rc g h3, h2⟩
 cases hi : P.info? t with
 | none => simp [hi] at h1
 | some i =>
  simp only [hi, Option.bind_some] at h1
  simp [zeroValue, typeInfo, hi, h1]

/-! The operations. -/

section
variable {P : Program} {E : Operand → V} {H : List AObj} {dst : Option Tmp} {ty : TypeId} {pos : String} {aft : Array Edge} {gd : Option (Nat × Bool)}

theorem OpS.quiet {o : Oper} (h : ∀ g (rc : Operand → Value) w, (∀ x ∈ o.op.operands, RV g (E x) (rc x)) → HR g H w → ∃ x, (execOp rc o).run P w = .ok (.value x) w ∧ RV g v x) : OpS P o E H v H := by
 intro g rc w h1 h2
 obtain ⟨x, hx, hv⟩ := h g rc w h1 h2
 rw [hx]
 exact ⟨g, hv, h2, .refl _ _ _⟩

theorem OpS.move {x : Operand} {v : V} (hx : E x = v) : OpS P ⟨dst, .move x, ty, pos, aft, gd⟩ E H v H :=
 .quiet fun g rc w h _ => ⟨rc x, by simp [execOp], hx ▸ h x (by simp [Op.operands])⟩

theorem OpS.assign {x : Operand} {v : V} (hx : E x = v) : OpS P ⟨dst, .assign x, ty, pos, aft, gd⟩ E H v H :=
 .quiet fun g rc w h _ => ⟨rc x, by simp [execOp], hx ▸ h x (by simp [Op.operands])⟩

theorem OpS.pick {c x y : Operand} {b : Bool} {v : V} (hc : E c = .bool b) (h1 : b = true → (E x).sub v) (h2 : b = false → (E y).sub v) : OpS P ⟨dst, .pick c x y, ty, pos, aft, gd⟩ E H v H :=
 .quiet fun g rc w h _ => by
  have hb := (hc ▸ h c (by simp [Op.operands])).bool_eq
  refine ⟨if b then rc x else rc y, by simp [execOp, hb, asBool], ?_⟩
  cases b with
  | true => exact h1 rfl g _ (h x (by simp [Op.operands]))
  | false => exact h2 rfl g _ (h y (by simp [Op.operands]))

theorem RV.bool (g : Gh) (b : Bool) : RV g (.bool b) (.bool b) := ⟨rfl, by simp [RC, Value.cells]⟩
theorem RV.int (g : Gh) (k : IntKind) (n : Int) : RV g (.int k n) (.int k n) := ⟨rfl, by simp [RC, Value.cells]⟩
theorem RV.str (g : Gh) (s : ByteArray) : RV g (.str s) (.string s) := ⟨rfl, by simp [RC, Value.cells]⟩

/-- 'a || b', as the region computes it. -/
theorem OpS.pickOr {c : Operand} {b d : Bool} (hc : E c = .bool b) (hx : E x = .bool true) (hy : b = false → E y = .bool d) : OpS P ⟨dst, .pick c x y, ty, pos, aft, gd⟩ E H (.bool (b || d)) H :=
 .pick hc (fun e => by subst e; rw [hx]; exact .refl _) (fun e => by rw [hy e]; subst e; exact .refl _)
theorem OpS.pickAnd {c : Operand} {b d : Bool} (hc : E c = .bool b) (hx : b = true → E x = .bool d) (hy : E y = .bool false) : OpS P ⟨dst, .pick c x y, ty, pos, aft, gd⟩ E H (.bool (b && d)) H :=
 .pick hc (fun e => by rw [hx e]; subst e; exact .refl _) (fun e => by subst e; rw [hy]; exact .refl _)

theorem OpS.arith {op : BinOp} {t : TypeId} {a b : Int} {r : Int} (hx : E x = .int k a) (hy : E y = .int k b)
  (hr : op = .add ∧ r = k.wrap (a + b) ∨ op = .sub ∧ r = k.wrap (a - b) ∨ op = .mul ∧ r = k.wrap (a * b)) : OpS P ⟨dst, .binOp op t x y t', ty, pos, aft, gd⟩ E H (.int k r) H :=
 .quiet fun g rc w h _ => by
  have ha := (hx ▸ h x (by simp [Op.operands])).int_eq
  have hb := (hy ▸ h y (by simp [Op.operands])).int_eq
  refine ⟨.int k r, ?_, RV.int g k r⟩
  rcases hr with ⟨rfl, rfl⟩ | ⟨rfl, rfl⟩ | ⟨rfl, rfl⟩ <;> simp [execOp, ha, hb, eqGuard, binOp, Op.intArith]

theorem OpS.add {t t' : TypeId} {x y : Operand} {k : IntKind} {a b : Int} (hx : E x = .int k a) (hy : E y = .int k b) : OpS P ⟨dst, .binOp .add t x y t', ty, pos, aft, gd⟩ E H (.int k (k.wrap (a + b))) H := .arith hx hy (.inl ⟨rfl, rfl⟩)
theorem OpS.sub {t t' : TypeId} {x y : Operand} {k : IntKind} {a b : Int} (hx : E x = .int k a) (hy : E y = .int k b) : OpS P ⟨dst, .binOp .sub t x y t', ty, pos, aft, gd⟩ E H (.int k (k.wrap (a - b))) H := .arith hx hy (.inr (.inl ⟨rfl, rfl⟩))
theorem OpS.mul {t t' : TypeId} {x y : Operand} {k : IntKind} {a b : Int} (hx : E x = .int k a) (hy : E y = .int k b) : OpS P ⟨dst, .binOp .mul t x y t', ty, pos, aft, gd⟩ E H (.int k (k.wrap (a * b))) H := .arith hx hy (.inr (.inr ⟨rfl, rfl⟩))

theorem OpS.cmp {op : BinOp} {t : TypeId} {a b : Int} {r : Bool} (hx : E x = .int k a) (hy : E y = .int k b)
  (hr : op = .eql ∧ r = decide (a = b) ∨ op = .neq ∧ r = (!decide (a = b)) ∨ op = .lss ∧ r = decide (a < b) ∨ op = .leq ∧ r = decide (a ≤ b) ∨ op = .gtr ∧ r = decide (b < a) ∨ op = .geq ∧ r = decide (b ≤ a)) :
  OpS P ⟨dst, .binOp op t x y t', ty, pos, aft, gd⟩ E H (.bool r) H :=
 .quiet fun g rc w h _ => by
  have ha := (hx ▸ h x (by simp [Op.operands])).int_eq
  have hb := (hy ▸ h y (by simp [Op.operands])).int_eq
  refine ⟨.bool r, ?_, RV.bool g r⟩
  rcases hr with ⟨rfl, rfl⟩ | ⟨rfl, rfl⟩ | ⟨rfl, rfl⟩ | ⟨rfl, rfl⟩ | ⟨rfl, rfl⟩ | ⟨rfl, rfl⟩ <;> simp [execOp, ha, hb, eqGuard, binOp, Op.intCmp] <;> rfl

theorem OpS.eql {t t' : TypeId} {x y : Operand} {k : IntKind} {a b : Int} (hx : E x = .int k a) (hy : E y = .int k b) : OpS P ⟨dst, .binOp .eql t x y t', ty, pos, aft, gd⟩ E H (.bool (decide (a = b))) H := .cmp hx hy (.inl ⟨rfl, rfl⟩)
theorem OpS.neq {t t' : TypeId} {x y : Operand} {k : IntKind} {a b : Int} (hx : E x = .int k a) (hy : E y = .int k b) : OpS P ⟨dst, .binOp .neq t x y t', ty, pos, aft, gd⟩ E H (.bool (!decide (a = b))) H := .cmp hx hy (.inr (.inl ⟨rfl, rfl⟩))
theorem OpS.lss {t t' : TypeId} {x y : Operand} {k : IntKind} {a b : Int} (hx : E x = .int k a) (hy : E y = .int k b) : OpS P ⟨dst, .binOp .lss t x y t', ty, pos, aft, gd⟩ E H (.bool (decide (a < b))) H := .cmp hx hy (.inr (.inr (.inl ⟨rfl, rfl⟩)))
theorem OpS.leq {t t' : TypeId} {x y : Operand} {k : IntKind} {a b : Int} (hx : E x = .int k a) (hy : E y = .int k b) : OpS P ⟨dst, .binOp .leq t x y t', ty, pos, aft, gd⟩ E H (.bool (decide (a ≤ b))) H := .cmp hx hy (.inr (.inr (.inr (.inl ⟨rfl, rfl⟩))))
theorem OpS.gtr {t t' : TypeId} {x y : Operand} {k : IntKind} {a b : Int} (hx : E x = .int k a) (hy : E y = .int k b) : OpS P ⟨dst, .binOp .gtr t x y t', ty, pos, aft, gd⟩ E H (.bool (decide (b < a))) H := .cmp hx hy (.inr (.inr (.inr (.inr (.inl ⟨rfl, rfl⟩)))))
theorem OpS.geq {t t' : TypeId} {x y : Operand} {k : IntKind} {a b : Int} (hx : E x = .int k a) (hy : E y = .int k b) : OpS P ⟨dst, .binOp .geq t x y t', ty, pos, aft, gd⟩ E H (.bool (decide (b ≤ a))) H := .cmp hx hy (.inr (.inr (.inr (.inr (.inr ⟨rfl, rfl⟩)))))

theorem OpS.not {t : TypeId} {x : Operand} {b : Bool} (hx : E x = .bool b) : OpS P ⟨dst, .unOp .not t x, ty, pos, aft, gd⟩ E H (.bool (!b)) H :=
 .quiet fun g rc w h _ => by
  have hb := (hx ▸ h x (by simp [Op.operands])).bool_eq
  exact ⟨_, by simp [execOp, hb, Op.unary], RV.bool g _⟩

theorem OpS.neg {t : TypeId} {x : Operand} {k : IntKind} {a : Int} (hx : E x = .int k a) : OpS P ⟨dst, .unOp .neg t x, ty, pos, aft, gd⟩ E H (.int k (k.wrap (0 - a))) H :=
 .quiet fun g rc w h _ => by
  have hb := (hx ▸ h x (by simp [Op.operands])).int_eq
  exact ⟨_, by simp [execOp, hb, Op.unary, Op.intArith], RV.int g k _⟩

theorem run_equalIn_bool {t : TypeId} (hu : P.underlying t = some .bool) (d : Nat) (a b : Bool) (w : World) : (Op.equalIn (d + 1) t (.bool a) (.bool b)).run P w = .ok (a == b) w := by
 simp [Op.equalIn, run_underlying hu]
theorem run_equal_bool {t : TypeId} (hu : P.underlying t = some .bool) (a b : Bool) (w : World) : (Op.equal t (.bool a) (.bool b)).run P w = .ok (a == b) w := run_equalIn_bool hu 9999 a b w
theorem run_binOp_eql_bool {t : TypeId} (hu : P.underlying t = some .bool) (a b : Bool) (w : World) : (Go.binOp .eql t (.bool a) (.bool b)).run P w = .ok (.bool (a == b)) w := by
 show (Op.equal t (.bool a) (.bool b) >>= fun x => pure (.bool x) : Sem Value).run P w = _
 rw [Sem.run_bind, run_equal_bool hu]; rfl
theorem run_binOp_neq_bool {t : TypeId} (hu : P.underlying t = some .bool) (a b : Bool) (w : World) : (Go.binOp .neq t (.bool a) (.bool b)).run P w = .ok (.bool (!(a == b))) w := by
 show (Op.equal t (.bool a) (.bool b) >>= fun x => pure (.bool !x) : Sem Value).run P w = _
 rw [Sem.run_bind, run_equal_bool hu]; rfl

theorem OpS.eqlB {t : TypeId} {a b : Bool} (hu : P.underlying t = some .bool) (hx : E x = .bool a) (hy : E y = .bool b) : OpS P ⟨dst, .binOp .eql t x y t', ty, pos, aft, gd⟩ E H (.bool (a == b)) H :=
 .quiet fun g rc w h _ => by
  have ha := (hx ▸ h x (by simp [Op.operands])).bool_eq
  have hb := (hy ▸ h y (by simp [Op.operands])).bool_eq
  exact ⟨.bool (a == b), by simp only [execOp, ha, hb, eqGuard, Sem.run_bind, run_binOp_eql_bool hu]; simp, RV.bool g _⟩
theorem OpS.neqB {t : TypeId} {a b : Bool} (hu : P.underlying t = some .bool) (hx : E x = .bool a) (hy : E y = .bool b) : OpS P ⟨dst, .binOp .neq t x y t', ty, pos, aft, gd⟩ E H (.bool (!(a == b))) H :=
 .quiet fun g rc w h _ => by
  have ha := (hx ▸ h x (by simp [Op.operands])).bool_eq
  have hb := (hy ▸ h y (by simp [Op.operands])).bool_eq
  exact ⟨.bool (!(a == b)), by simp only [execOp, ha, hb, eqGuard, Sem.run_bind, run_binOp_neq_bool hu]; simp, RV.bool g _⟩

theorem RV.str_eq {s : ByteArray} {x : Value} (h : RV g (.str s) x) : x = .string s := by
 have hv2 : RC g (.str s) x.cells.toList := h.2
 simp only [RC] at hv2
 have ha : valAgg x = false := h.1.symm
 cases x <;> simp_all [Value.cells, valAgg]

theorem OpS.convInt {src d : TypeId} {k' : IntKind} {a : Int} (hs : ∃ e, P.underlying src = some e) (hd : P.underlying d = some (.int k')) (hx : E x = .int k a) : OpS P ⟨dst, .convert src d x, ty, pos, aft, gd⟩ E H (.int k' (k'.wrap a)) H :=
 .quiet fun g rc w h _ => by
  obtain ⟨e, he⟩ := hs
  have ha := (hx ▸ h x (by simp [Op.operands])).int_eq
  exact ⟨.int k' (k'.wrap a), by simp [execOp, ha, convert, run_underlying he, run_underlying hd, Conv.intToInt], RV.int g k' _⟩

theorem OpS.mkIface {t : TypeId} {d : TypeDesc} (hu : P.underlying t = some d) (hd : (match d with | .interface _ => false | _ => true) = true) (hx : E x = v) (hnt : (match v with | .tup _ => false | .undef => false | _ => true) = true) :
  OpS P ⟨dst, .makeInterface t x, ty, pos, aft, gd⟩ E H (.ifc t v) H :=
 .quiet fun g rc w h _ => by
  have hv := hx ▸ h x (by simp [Op.operands])
  have hval : v.isAgg = valAgg (rc x) ∧ RC g v (rc x).cells.toList := hv.val (fun e => by subst e; cases hnt) (fun vs e => by subst e; cases hnt)
  refine ⟨.iface t (rc x), ?_, ⟨rfl, ?_⟩⟩
  ·cases d <;> first | (cases hd; done) | simp [execOp, Instr.makeInterface, run_underlying hu]
  ·simp only [RC, Value.cells]
   exact ⟨rc x, rfl, hval.1, hval.2⟩

theorem OpS.extract {x : Operand} {i : Nat} {vs : List V} {v : V} (hx : E x = .tup vs) (hv : vs[i]? = some v) : OpS P ⟨dst, .extract x i, ty, pos, aft, gd⟩ E H v H :=
 .quiet fun g rc w h _ => by
  obtain ⟨xs, e, hl⟩ := hx ▸ h x (by simp [Op.operands])
  have key : ∀ (vs : List V) (l : List Value) (i : Nat), RVl g vs l → vs[i]? = some v → ∃ y, l[i]? = some y ∧ RV g v y := by
   intro vs
   induction vs with
   | nil => intro l i _ h; simp at h
   | cons a vs ih =>
    intro l i h1 h2
    simp only [RVl] at h1
    obtain ⟨y, r, rfl, q1, q2, q3⟩ := h1
    cases i with
    | zero => simp at h2; subst h2; exact ⟨y, rfl, RV.of q1 q2⟩
    | succ i => simp at h2; exact ih r i q3 h2
  obtain ⟨y, h1, h2⟩ := key vs _ i hl hv
  have h1' : xs[i]? = some y := by simpa using h1
  exact ⟨y, by simp [execOp, e, Instr.extract, h1'], h2⟩

theorem OpS.nilCheck {x : Operand} {v : V} (hx : E x = v) (hv : (match v with | .ptr _ _ _ => true | .cptr _ => true | .fn _ _ _ => true | _ => false) = true) : OpS P ⟨dst, .nilCheck x, ty, pos, aft, gd⟩ E H v H :=
 .quiet fun g rc w h _ => by
  have hr := hx ▸ h x (by simp [Op.operands])
  refine ⟨rc x, ?_, hr⟩
  have hval : v.isAgg = valAgg (rc x) ∧ RC g v (rc x).cells.toList := hr.val (fun e => by subst e; cases hv) (fun vs e => by subst e; cases hv)
  obtain ⟨ha, hc⟩ := hval
  cases v <;> simp only [Bool.false_eq_true] at hv
  ·simp only [RC] at hc
   obtain ⟨p, h1, h2⟩ := hc
   have : ∃ ad, rc x = .pointer (some ad) := by
    cases hq : rc x <;> simp_all [Value.cells, valAgg, V.isAgg]
   obtain ⟨ad, this⟩ := this
   simp [execOp, this]
  ·simp only [RC] at hc
   obtain ⟨a, c, h1, h2, h3⟩ := hc
   have : rc x = .pointer (some a) := by
    cases hq : rc x <;> simp_all [Value.cells, valAgg, V.isAgg]
   simp [execOp, this]
  ·simp only [RC] at hc
   obtain ⟨a, b, h1, h2⟩ := hc
   have : ∃ f, rc x = .func (.func f) a b := by
    cases hq : rc x <;> simp_all [Value.cells, valAgg, V.isAgg]
   obtain ⟨f, this⟩ := this
   simp [execOp, this]

end

end
section
variable {g : Gh} {v : V}

def okV : V → Bool
 | .undef => false
 | .tup _ => false
 | _ => true

theorem RV.ok {x : Value} (h : RV g v x) (hk : okV v = true) : v.isAgg = valAgg x ∧ RC g v x.cells.toList :=
 h.val (fun e => by subst e; cases hk) (fun vs e => by subst e; cases hk)

theorem RV.leafval {x : Value} (h : RV g v x) (hk : okV v = true) (ha : v.isAgg = false) : RC g v [x] := by
 obtain ⟨h1, h2⟩ := h.ok hk
 have : x.cells.toList = [x] := by
  rw [ha] at h1
  cases x <;> first | rfl | (simp [valAgg] at h1)
 rwa [this] at h2

theorem RV.ptr_eq {off : Nat} {x : Value} (h : RV g (.ptr o path off) x) : ∃ p, g.ρ[o]? = some p ∧ x = .pointer (some ⟨p.block, off, none⟩) := by
 have := h.leafval rfl rfl
 simp only [RC, List.cons.injEq, and_true] at this
 exact this

theorem RV.cptr_eq {x : Value} (h : RV g (.cptr v) x) : ∃ (a : Addr) (c : List Value), a.spot = none ∧ x = .pointer (some a) ∧ RC g v c ∧ g.holds a c := by
 have := h.leafval rfl rfl
 simp only [RC, List.cons.injEq, and_true] at this
 exact this

theorem RV.agg_eq {x : Value} (h : RV g v x) (ha : v.isAgg = true) : ∃ cs : Array Value, x = .agg cs ∧ RC g v cs.toList := by
 have hk : okV v = true := by cases v <;> simp_all [V.isAgg, okV]
 obtain ⟨h1, h2⟩ := h.ok hk
 rw [ha] at h1
 cases x <;> simp [valAgg] at h1
 exact ⟨_, rfl, by simpa [Value.cells] using h2⟩

theorem RV.sl_eq {e : Nat} {tk : Tk} {xs : List V} {x : Value} (h : RV g (.sl e tk xs) x) :
  ∃ (a : Option Addr) (cap : Nat), x = .slice a xs.length cap ∧ xs.length ≤ cap ∧ tk.ok g e a xs.length cap ∧
   ∃ c : List Value, RCu g e xs c ∧ (a = none → cap = 0) ∧ ∀ ad, a = some ad → (xs ≠ [] → ad.spot = none) ∧ g.holds ad c := by
 have := h.leafval rfl rfl
 simp only [RC, List.cons.injEq, and_true] at this
 exact this

theorem RV.nils_eq {x : Value} (h : RV g .nils x) : x = .slice none 0 0 := by
 have := h.leafval rfl rfl
 simpa only [RC, List.cons.injEq, and_true] using this

theorem RV.slo_eq {e : Nat} {off len : Nat} {x : Value} (h : RV g (.slo e o path off lo len cap) x) :
  ∃ p, g.ρ[o]? = some p ∧ ∃ (a : Option Addr) (c : Nat), x = .slice a len c ∧ len ≤ c ∧ ((p.vac = true ∧ c = 0) ∨ (a = some ⟨p.block, off + lo * e, none⟩ ∧ (cap = 1 → p.vac = false ∧ off + (lo + c) * e ≤ p.size))) := by
 have := h.leafval rfl rfl
 simp only [RC, List.cons.injEq, and_true] at this
 exact this

theorem RV.of_leaf {x : Value} (ha : v.isAgg = false) (h : RC g v [x]) : RV g v x := RC.leaf ha h

/-- The value that cells make up. -/
def mkVal (agg : Bool) (c : List Value) : Value := if agg then .agg c.toArray else c.headD Go.undef

theorem mkVal_rv {u : V} {c : List Value} {b : Bool} (hb : u.isAgg = b) (h : RC g u c) : RV g u (mkVal b c) := by
 cases b with
 | true => exact RC.agg hb h
 | false =>
  have hl : c.length = 1 := by
   rw [h.len]
   cases u <;> first | rfl | (simp [V.isAgg] at hb)
  cases c with
  | nil => simp at hl
  | cons x r =>
   cases r with
   | nil => exact RC.leaf hb h
   | cons y r => simp at hl

theorem run_part {P : Program} {t : TypeId} {pre c post : List Value} {cs : Array Value} {off n : Nat} {b : Bool} (hc : cs.toList = pre ++ c ++ post) (hp : pre.length = off) (hn : c.length = n)
  (hs : szOf P t = some n) (ha : aggOf P t = some b) (hb : b = false → n = 1) (w : World) : (part t cs off).run P w = .ok (mkVal b c) w := by
 unfold part
 rw [Sem.run_bind, run_isAgg' ha]
 cases b with
 | true =>
  simp only [Result.andThen_ok, if_true, mkVal]
  rw [Sem.run_bind, run_sizeOf' hs]
  simp only [Result.andThen_ok, Sem.run_pure]
  congr 2
  apply Array.ext'
  rw [Array.toList_extract, hc, List.extract_eq_take_drop]
  simp only [List.append_assoc]
  rw [show off + n - off = c.length from by omega, ← hp, List.drop_left, List.take_left]
 | false =>
  have h1 := hb rfl
  subst h1
  cases c with
  | nil => simp at hn
  | cons x r =>
   have : cs[off]? = some x := by
    have : cs.toList[off]? = some x := by
     rw [hc, ← hp, List.append_assoc, List.getElem?_append_right (Nat.le_refl _)]
     simp
    simpa using this
   simp [mkVal, this]

theorem flen_leaf {u : V} (h : u.isAgg = false) : flen u = 1 := by cases u <;> first | rfl | (simp [V.isAgg] at h)

section
variable {P : Program} {E : Operand → V} {H : List AObj} {dst : Option Tmp} {ty : TypeId} {pos : String} {aft : Array Edge} {gd : Option (Nat × Bool)}

theorem OpS.field {t : TypeId} {x : Operand} {k : Nat} {l : List (Nat × Nat × Bool)} {off n : Nat} {b : Bool} {vs : List V} {u : V} (hl : layOf P t = some l) (hk : l[k]? = some (off, n, b))
  (hx : E x = .st vs) (hu : vs[k]? = some u) (ho : flenL (vs.take k) = off) (hn : flen u = n) (hb : u.isAgg = b) : OpS P ⟨dst, .field t x k, ty, pos, aft, gd⟩ E H u H :=
 .quiet fun g rc w h _ => by
  obtain ⟨cs, e, hc⟩ := (hx ▸ h x (by simp [Op.operands])).agg_eq rfl
  simp only [RC] at hc
  obtain ⟨pre, c, post, e1, e2, e3, _⟩ := hc.get hu
  obtain ⟨fs, f, hfs, hf, rfl, hsz, hag⟩ := layOf_get hl hk
  refine ⟨mkVal b c, ?_, mkVal_rv hb e3⟩
  have hp := run_part (P := P) (t := f.type) (b := b) e1 (e2.trans ho) (e3.len.trans hn) hsz hag (fun e => by subst e; rw [← hn, flen_leaf hb]) w
  simp [execOp, Instr.field, run_underlying hfs, hf, e, asAgg, hp]

theorem OpS.index {t : TypeId} {x i : Operand} {len e : Nat} {b : Bool} {vs : List V} {u : V} {k : IntKind} {n : Int} (hl : arrOf P t = some (len, e, b))
  (hx : E x = .arr e vs) (hi : E i = .int k n) (h0 : 0 ≤ n) (h1 : n < len) (hu : vs[n.toNat]? = some u) (hb : u.isAgg = b) : OpS P ⟨dst, .index t x i, ty, pos, aft, gd⟩ E H u H :=
 .quiet fun g rc w h _ => by
  obtain ⟨cs, ex, hc⟩ := (hx ▸ h x (by simp [Op.operands])).agg_eq rfl
  have ei := (hi ▸ h i (by simp [Op.operands])).int_eq
  simp only [RC] at hc
  obtain ⟨pre, c, post, e1, e2, el, e3, _⟩ := hc.get hu
  obtain ⟨et, hut, hsz, hag⟩ := arrOf_get hl
  refine ⟨mkVal b c, ?_, mkVal_rv hb e3⟩
  have hp := run_part (P := P) (t := et) (b := b) e1 e2 el hsz hag (fun eb => by subst eb; rw [← el, e3.len, flen_leaf hb]) w
  simp [execOp, Instr.index, run_underlying hut, ex, ei, asIntOf, h0, h1, run_sizeOf' hsz, hp]

theorem add_addr {b off n : Nat} : (⟨b, off, none⟩ : Addr).add n = ⟨b, off + n, none⟩ := by unfold Addr.add; split <;> simp_all

theorem add_addr' {a : Addr} {n : Nat} (h : a.spot = none) : a.add n = ⟨a.block, a.off + n, none⟩ := by cases a; simp only at h; subst h; exact add_addr

/-- The address of a part of an object. -/
theorem OpS.fieldAddr {t : TypeId} {x : Operand} {k : Nat} {l : List (Nat × Nat × Bool)} {off n : Nat} {b : Bool} {o : Nat} {path : List Nat} {at_ : Nat} (hl : layOf P t = some l) (hk : l[k]? = some (off, n, b)) (hn : (n == 0) = false)
  (hx : E x = .ptr o path at_) : OpS P ⟨dst, .fieldAddr t x k, ty, pos, aft, gd⟩ E H (.ptr o (path ++ [k]) (at_ + off)) H :=
 .quiet fun g rc w h _ => by
  obtain ⟨p, h1, h2⟩ := (hx ▸ h x (by simp [Op.operands])).ptr_eq
  obtain ⟨fs, f, hfs, hf, rfl, hsz, hag⟩ := layOf_get hl hk
  refine ⟨.pointer (some ⟨p.block, at_ + f.offset, none⟩), ?_, RV.of_leaf rfl (by simp only [RC]; exact ⟨p, h1, rfl⟩)⟩
  have hn' : ¬ n = 0 := by simpa using hn
  simp [execOp, Instr.fieldAt, run_underlying hfs, hf, h2, Instr.sureAddr, fieldPlace, run_sizeOf' hsz, hn', add_addr]

theorem OpS.fieldAddrC {t : TypeId} {k : Nat} {l : List (Nat × Nat × Bool)} {off n : Nat} {b : Bool} {vs : List V} {u : V} (hl : layOf P t = some l) (hk : l[k]? = some (off, n, b)) (hn : (n == 0) = false)
  (hx : E x = .cptr (.st vs)) (hu : vs[k]? = some u) (ho : flenL (vs.take k) = off) : OpS P ⟨dst, .fieldAddr t x k, ty, pos, aft, gd⟩ E H (.cptr u) H :=
 .quiet fun g rc w h _ => by
  obtain ⟨a, c, h1, h2, h3, h4⟩ := (hx ▸ h x (by simp [Op.operands])).cptr_eq
  obtain ⟨fs, f, hfs, hf, rfl, hsz, hag⟩ := layOf_get hl hk
  simp only [RC] at h3
  obtain ⟨pre, c', post, e1, e2, e3, _⟩ := h3.get hu
  refine ⟨.pointer (some (a.add f.offset)), ?_, RV.of_leaf rfl ?_⟩
  ·have hn' : ¬ n = 0 := by simpa using hn
   simp [execOp, Instr.fieldAt, run_underlying hfs, hf, h2, Instr.sureAddr, fieldPlace, run_sizeOf' hsz, hn']
  ·simp only [RC]
   refine ⟨a.add f.offset, c', by rw [add_addr' h1], rfl, e3, fun i y hy => ?_⟩
   rw [add_addr' h1]
   have := h4 (f.offset + i) y (by
    rw [e1, List.append_assoc, List.getElem?_append_right (by omega), show f.offset + i - pre.length = i from by omega, List.getElem?_append_left (List.getElem?_eq_some_iff.1 hy).1]
    exact hy)
   simpa [Nat.add_assoc] using this

theorem OpS.indexAddr {t : TypeId} {x i : Operand} {len e : Nat} {b : Bool} {o : Nat} {path : List Nat} {at_ : Nat} {k : IntKind} {n : Int} (hl : arrOf P t = some (len, e, b))
  (hx : E x = .ptr o path at_) (hi : E i = .int k n) (h0 : 0 ≤ n) (h1 : n < len) : OpS P ⟨dst, .indexAddr t x i, ty, pos, aft, gd⟩ E H (.ptr o (path ++ [n.toNat]) (at_ + n.toNat * e)) H :=
 .quiet fun g rc w h _ => by
  obtain ⟨p, q1, q2⟩ := (hx ▸ h x (by simp [Op.operands])).ptr_eq
  have ei := (hi ▸ h i (by simp [Op.operands])).int_eq
  obtain ⟨et, hut, hsz, hag⟩ := arrOf_get hl
  refine ⟨.pointer (some ⟨p.block, at_ + n.toNat * e, none⟩), ?_, RV.of_leaf rfl (by simp only [RC]; exact ⟨p, q1, rfl⟩)⟩
  simp [execOp, Instr.indexAt, run_underlying hut, ei, q2, asIntOf, Instr.sureAddr, h0, h1, run_sizeOf' hsz, add_addr]

theorem OpS.indexAddrC {t : TypeId} {i : Operand} {len e : Nat} {b : Bool} {vs : List V} {u : V} {n : Int} (hl : arrOf P t = some (len, e, b))
  (hx : E x = .cptr (.arr e vs)) (hi : E i = .int k n) (h0 : 0 ≤ n) (h1 : n < len) (hu : vs[n.toNat]? = some u) : OpS P ⟨dst, .indexAddr t x i, ty, pos, aft, gd⟩ E H (.cptr u) H :=
 .quiet fun g rc w h _ => by
  obtain ⟨a, c, q1, q2, q3, q4⟩ := (hx ▸ h x (by simp [Op.operands])).cptr_eq
  have ei := (hi ▸ h i (by simp [Op.operands])).int_eq
  obtain ⟨et, hut, hsz, hag⟩ := arrOf_get hl
  simp only [RC] at q3
  obtain ⟨pre, c', post, e1, e2, el, e3, _⟩ := q3.get hu
  refine ⟨.pointer (some (a.add (n.toNat * e))), ?_, RV.of_leaf rfl ?_⟩
  ·simp [execOp, Instr.indexAt, run_underlying hut, ei, q2, asIntOf, Instr.sureAddr, h0, h1, run_sizeOf' hsz]
  ·simp only [RC]
   refine ⟨a.add (n.toNat * e), c', by rw [add_addr' q1], rfl, e3, fun i y hy => ?_⟩
   rw [add_addr' q1]
   have := q4 (n.toNat * e + i) y (by
    rw [e1, List.append_assoc, List.getElem?_append_right (by omega), show n.toNat * e + i - pre.length = i from by omega, List.getElem?_append_left (List.getElem?_eq_some_iff.1 hy).1]
    exact hy)
   simpa [Nat.add_assoc] using this

theorem OpS.indexAddrS {t : TypeId} {i : Operand} {e : Nat} {b : Bool} {tk : Tk} {vs : List V} {u : V} {n : Int} (hl : sliOf P t = some (et, e, b, by_))
  (hx : E x = .sl e tk vs) (hi : E i = .int k n) (h0 : 0 ≤ n) (h1 : n < vs.length) (hu : vs[n.toNat]? = some u) : OpS P ⟨dst, .indexAddr t x i, ty, pos, aft, gd⟩ E H (.cptr u) H :=
 .quiet fun g rc w h _ => by
  obtain ⟨a, cap, q2, q3, _, c, q4, q5, q6⟩ := (hx ▸ h x (by simp [Op.operands])).sl_eq
  have ei := (hi ▸ h i (by simp [Op.operands])).int_eq
  obtain ⟨hut, hsz, hag, _⟩ := sliOf_get hl
  obtain ⟨pre, c', post, e1, e2, el, e3, _⟩ := q4.get hu
  cases a with
  | none => have := q5 rfl; omega
  | some a =>
   obtain ⟨q1, q4⟩ := q6 a rfl
   refine ⟨.pointer (some (a.add (n.toNat * e))), ?_, RV.of_leaf rfl ?_⟩
   ·simp [execOp, Instr.indexAt, run_underlying hut, ei, q2, asIntOf, h0, h1, run_sizeOf' hsz]
   ·simp only [RC]
    refine ⟨a.add (n.toNat * e), c', by rw [add_addr' (q1 (by rintro rfl; simp at h1; omega))], rfl, e3, fun i y hy => ?_⟩
    rw [add_addr' (q1 (by rintro rfl; simp at h1; omega))]
    have := q4 (n.toNat * e + i) y (by
     rw [e1, List.append_assoc, List.getElem?_append_right (by omega), show n.toNat * e + i - pre.length = i from by omega, List.getElem?_append_left (List.getElem?_eq_some_iff.1 hy).1]
     exact hy)
    simpa [Nat.add_assoc] using this

theorem OpS.indexAddrO {t : TypeId} {i : Operand} {e : Nat} {b : Bool} {at_ len : Nat} {n : Int} (hl : sliOf P t = some (et, e, b, by_))
  (hx : E x = .slo e o path at_ lo len cap) (hi : E i = .int k n) (h0 : 0 ≤ n) (h1 : n < len) : OpS P ⟨dst, .indexAddr t x i, ty, pos, aft, gd⟩ E H (.ptr o (path ++ [lo + n.toNat]) (at_ + (lo + n.toNat) * e)) H :=
 .quiet fun g rc w h _ => by
  obtain ⟨p, q1, a, c, q2, q4, q3⟩ := (hx ▸ h x (by simp [Op.operands])).slo_eq
  obtain ⟨rfl, _⟩ := q3.resolve_left (fun hv => by omega)
  have ei := (hi ▸ h i (by simp [Op.operands])).int_eq
  obtain ⟨hut, hsz, hag, _⟩ := sliOf_get hl
  refine ⟨.pointer (some ⟨p.block, at_ + (lo + n.toNat) * e, none⟩), ?_, RV.of_leaf rfl (by simp only [RC]; exact ⟨p, q1, rfl⟩)⟩
  simp [execOp, Instr.indexAt, run_underlying hut, ei, q2, asIntOf, h0, h1, run_sizeOf' hsz, add_addr, Nat.add_mul, Nat.add_assoc]

theorem run_loadVar' {t : TypeId} {a : Addr} {c : List Value} {n : Nat} {b : Bool} (ha : a.spot = none) (hs : szOf P t = some n) (hag : aggOf P t = some b) (hn : c.length = n) (hb : b = false → n = 1) (w : World)
  (hc : ∀ (i : Nat) y, c[i]? = some y → w.cell? ⟨a.block, a.off + i, none⟩ = some y) : (loadVar t a).run P w = .ok (mkVal b c) w := by
 unfold loadVar
 rw [Sem.run_bind, run_isAgg' hag]
 have hload := run_loadCells_list (P := P) w a c (fun j y hy => by rw [add_addr' ha]; exact hc j y hy)
 cases b with
 | true =>
  simp only [Result.andThen_ok, if_true, mkVal]
  rw [Sem.run_bind, run_sizeOf' hs]
  simp only [Result.andThen_ok, Sem.run_bind, ← hn, hload, Sem.run_pure]
 | false =>
  have h1 := hb rfl
  subst h1
  cases c with
  | nil => simp at hn
  | cons x r =>
   have := hc 0 x rfl
   have e : (⟨a.block, a.off + 0, none⟩ : Addr) = a := by cases a; simp only at ha; subst ha; rfl
   rw [e] at this
   simp [mkVal, this]

/-- What an object's part holds. -/
theorem HR.cells {g : Gh} {w : World} (hr : HR g H w) {o : Nat} {p : Place} {v u : V} {path : List Nat} (hp : g.ρ[o]? = some p) (ho : H[o]? = some (.cells v)) (hu : v.at path = some u) :
  ∃ c, RC g u c ∧ ∀ (i : Nat) y, c[i]? = some y → w.cell? ⟨p.block, v.offOf path 0 + i, none⟩ = some y := by
 obtain ⟨cs, ty, h1, ⟨junk, h2, h3⟩, h4⟩ := hr.obj o p _ hp ho
 obtain ⟨pre, c, post, e1, e2, e3, _⟩ := h3.at (acc := 0) hu
 refine ⟨c, e3, fun i y hy => ?_⟩
 simp only [World.cell?, h1]
 have : cs.toList[v.offOf path 0 + i]? = some y := by
  rw [h2, e1, ← e2]
  simp only [List.append_assoc]
  rw [List.getElem?_append_right (by omega), show 0 + pre.length + i - pre.length = i from by omega, List.getElem?_append_left (List.getElem?_eq_some_iff.1 hy).1]
  exact hy
 simpa using this

theorem OpS.load {t : TypeId} {a : Operand} {n : Nat} {b : Bool} {o : Nat} {path : List Nat} {off : Nat} {v u : V} (hs : szOf P t = some n) (hag : aggOf P t = some b)
  (hx : E a = .ptr o path off) (ho : H[o]? = some (.cells v)) (hu : v.at path = some u) (hoff : v.offOf path 0 = off) (hn : flen u = n) (hb : u.isAgg = b) : OpS P ⟨dst, .load t a, ty, pos, aft, gd⟩ E H u H :=
 .quiet fun g rc w h hr => by
  obtain ⟨p, q1, q2⟩ := (hx ▸ h a (by simp [Op.operands])).ptr_eq
  obtain ⟨c, hc, hcell⟩ := hr.cells q1 ho hu
  subst hoff
  refine ⟨mkVal b c, ?_, mkVal_rv hb hc⟩
  have := run_loadVar' (P := P) (a := ⟨p.block, v.offOf path 0, none⟩) rfl hs hag (hc.len.trans hn) (fun e => by subst e; rw [← hn, flen_leaf hb]) w hcell
  simp [execOp, Instr.loadAt, q2, Instr.sureAddr, this]

theorem OpS.loadC {t : TypeId} {a : Operand} {n : Nat} {b : Bool} {u : V} (hs : szOf P t = some n) (hag : aggOf P t = some b)
  (hx : E a = .cptr u) (hn : flen u = n) (hb : u.isAgg = b) : OpS P ⟨dst, .load t a, ty, pos, aft, gd⟩ E H u H :=
 .quiet fun g rc w h hr => by
  obtain ⟨ad, c, q1, q2, q3, q4⟩ := (hx ▸ h a (by simp [Op.operands])).cptr_eq
  refine ⟨mkVal b c, ?_, mkVal_rv hb q3⟩
  have := run_loadVar' (P := P) (a := ad) q1 hs hag (q3.len.trans hn) (fun e => by subst e; rw [← hn, flen_leaf hb]) w (fun i y hy => hr.agree _ _ _ (q4 i y hy))
  simp [execOp, Instr.loadAt, q2, Instr.sureAddr, this]

theorem OpS.alloc {t : TypeId} {z : V} (hz : ZeroV P t z) : OpS P ⟨dst, .alloc t, ty, pos, aft, gd⟩ E H (.ptr H.length [] 0) (H ++ [.cells z]) := by
 intro g rc w _ hr
 obtain ⟨val, h1, h2, h3⟩ := hz.run w g
 have hrun : (execOp rc ⟨dst, .alloc t, ty, pos, aft, gd⟩).run P w = .ok (.value (.pointer (some ⟨w.heap.size, 0, none⟩))) (w.alloc (.cells val.cells t)) := by
  simp [execOp, Instr.alloc, h1, newVar, newRow]
 rw [hrun]
 have hlen := h2.len
 refine ⟨{ g with ρ := g.ρ ++ [⟨w.heap.size, 0, 0, false⟩] }, ?_, hr.alloc _ _ ⟨w.heap.size, 0, 0, false⟩ rfl ?_, .alloc hr _ _ _ rfl⟩
 ·refine RV.of_leaf rfl ?_
  simp only [RC]
  exact ⟨⟨w.heap.size, 0, 0, false⟩, by rw [← hr.len]; simp, rfl⟩
 ·refine ⟨val.cells, t, heap_alloc_eq _ _, ⟨[], by rw [← hlen, List.take_length, List.append_nil], ?_⟩, fun i => hr.fresh (Nat.le_refl _) i⟩
  rw [← hlen, List.take_length]
  exact h2.mono (g.le_push _)

theorem OpS.box {t : TypeId} {x : Operand} {v : V} (hx : E x = v) (hk : okV v = true) : OpS P ⟨dst, .box t x, ty, pos, aft, gd⟩ E H (.ptr H.length [] 0) (H ++ [.cells v]) := by
 intro g rc w h hr
 obtain ⟨h3, h2⟩ := (hx ▸ h x (by simp [Op.operands])).ok hk
 have hrun : (execOp rc ⟨dst, .box t x, ty, pos, aft, gd⟩).run P w = .ok (.value (.pointer (some ⟨w.heap.size, 0, none⟩))) (w.alloc (.cells (rc x).cells t)) := by
  simp [execOp, Instr.box, newVar, newRow]
 rw [hrun]
 have hlen := h2.len
 refine ⟨{ g with ρ := g.ρ ++ [⟨w.heap.size, 0, 0, false⟩] }, ?_, hr.alloc _ _ ⟨w.heap.size, 0, 0, false⟩ rfl ?_, .alloc hr _ _ _ rfl⟩
 ·refine RV.of_leaf rfl ?_
  simp only [RC]
  exact ⟨⟨w.heap.size, 0, 0, false⟩, by rw [← hr.len]; simp, rfl⟩
 ·refine ⟨(rc x).cells, t, heap_alloc_eq _ _, ⟨[], by rw [← hlen, List.take_length, List.append_nil], ?_⟩, fun i => hr.fresh (Nat.le_refl _) i⟩
  rw [← hlen, List.take_length]
  exact h2.mono (g.le_push _)

theorem OpS.store {t : TypeId} {a x : Operand} {n : Nat} {o : Nat} {path : List Nat} {off : Nat} {v old u : V} (hs : szOf P t = some n)
  (ha : E a = .ptr o path off) (hx : E x = u) (hk : okV u = true) (ho : H[o]? = some (.cells v)) (hold : v.at path = some old) (hoff : v.offOf path 0 = off) (hn : flen u = n) (hn' : flen old = n) :
  OpS P ⟨dst, .store t a x, ty, pos, aft, gd⟩ E H .undef (H.set o (.cells (v.setAt path u))) := by
 intro g rc w h hr
 obtain ⟨p, q1, q2⟩ := (ha ▸ h a (by simp [Op.operands])).ptr_eq
 obtain ⟨h3, h2⟩ := (hx ▸ h x (by simp [Op.operands])).ok hk
 obtain ⟨cs, cty, k1, ⟨junk, k2, k3⟩, k4⟩ := hr.obj o p _ q1 ho
 obtain ⟨pre, c, post, e1, e2, e3, e4⟩ := k3.at (acc := 0) hold
 have hc1 : (rc x).cells.toList.length = n := h2.len.trans hn
 have hc2 : c.length = n := e3.len.trans hn'
 have htot : cs.toList = pre ++ c ++ post ++ junk := by rw [k2, e1]
 have hsz : cs.size = pre.length + c.length + post.length + junk.length := by
  have := congrArg List.length htot
  simpa [Nat.add_assoc] using this
 have hst := run_storeCells_at P p.block pre.length cty (rc x).cells.toList 0 cs w k1 (by omega) (fun y hy => h2.one y hy)
 have hrun : (execOp rc ⟨dst, .store t a x, ty, pos, aft, gd⟩).run P w = .ok .skip (w.setRow p.block (pre ++ (rc x).cells.toList ++ (post ++ junk)).toArray) := by
  have hoff' : off = pre.length := by omega
  have hsize : (rc x).cells.size = n := by simpa using hc1
  have hrow : (cs.toList.take (pre.length + 0) ++ (rc x).cells.toList ++ cs.toList.drop (pre.length + 0 + (rc x).cells.toList.length)) = pre ++ (rc x).cells.toList ++ (post ++ junk) := by
   have htot' : cs.toList = (pre ++ c) ++ (post ++ junk) := by rw [htot]; simp
   have d1 : cs.toList.take (pre.length + 0) = pre := by rw [htot', Nat.add_zero, List.append_assoc, List.take_left]
   have d2 : cs.toList.drop (pre.length + 0 + (rc x).cells.toList.length) = post ++ junk := by
    rw [htot', show pre.length + 0 + (rc x).cells.toList.length = (pre ++ c).length from by rw [List.length_append]; omega, List.drop_left]
   rw [d1, d2]
  rw [hrow] at hst
  simp only [execOp, Instr.storeAt, q2, Instr.sureAddr, storeVar, Sem.run_bind, Sem.run_pure, Result.andThen_ok, run_sizeOf' hs]
  rw [hsize]
  simp [hoff', hst]
 rw [hrun]
 have hset := e4 u (rc x).cells.toList h2 (by omega)
 refine ⟨g, trivial, hr.write q1 ho rfl k4 (fun b hb => setRow_other w p.block b _ hb) ?_, Ev.write q1 ho rfl (fun b hb => setRow_other w p.block b _ hb) rfl rfl rfl (by simp) (Nat.le_refl _)⟩
 refine ⟨_, cty, setRow_heap w p.block cs _ cty (0, 0) k1, ⟨junk, ?_, ?_⟩, k4⟩
 ·have hl : flen (v.setAt path u) = (pre ++ (rc x).cells.toList ++ post).length := hset.len.symm
  rw [hl]
  show pre ++ (rc x).cells.toList ++ (post ++ junk) = _ ++ junk
  rw [show pre ++ (rc x).cells.toList ++ (post ++ junk) = (pre ++ (rc x).cells.toList ++ post) ++ junk from by simp, List.take_left]
 ·have hl : flen (v.setAt path u) = (pre ++ (rc x).cells.toList ++ post).length := hset.len.symm
  rw [hl]
  show RC g _ (List.take _ (pre ++ (rc x).cells.toList ++ (post ++ junk)))
  rw [show pre ++ (rc x).cells.toList ++ (post ++ junk) = (pre ++ (rc x).cells.toList ++ post) ++ junk from by simp, List.take_left]
  exact hset

end

end
theorem V.sub.tok (e : Nat) (o : Nat) (xs : List V) : V.sub (.sl e .exact xs) (.sl e (.tok o) xs) := by
 intro g x h
 have h2 : RC g (.sl e .exact xs) x.cells.toList := h.2
 refine ⟨h.1, ?_⟩
 simp only [RC] at h2 ⊢
 obtain ⟨a, cap, h1, h3, h4, h5⟩ := h2
 exact ⟨a, cap, h1, h3, .inl h4, h5⟩
theorem V.sub.nils_tok (e : Nat) (o : Nat) : V.sub .nils (.sl e (.tok o) []) := (V.sub.nils e).trans (V.sub.tok e o _)

/-- An object of which nothing is known but that it may stand for the room behind a view. -/
theorem HR.vacant {g : Gh} {H : List AObj} (h : HR g H w) : HR { g with ρ := g.ρ ++ [⟨0, 0, 0, true⟩] } (H ++ [.tail]) w := by
 have low : ∀ (a : Nat) (q : Place) (ob : AObj), (g.ρ ++ [(⟨0, 0, 0, true⟩ : Place)])[a]? = some q → (H ++ [.tail])[a]? = some ob → (q = ⟨0, 0, 0, true⟩ ∧ ob = .tail) ∨ (g.ρ[a]? = some q ∧ H[a]? = some ob) := by
  intro a q ob h1 h2
  rcases Nat.lt_or_ge a g.ρ.length with hl | hl
  ·exact .inr ⟨by rwa [List.getElem?_append_left hl] at h1, by rwa [List.getElem?_append_left (h.len ▸ hl)] at h2⟩
  ·have hlen : a < (g.ρ ++ [(⟨0, 0, 0, true⟩ : Place)]).length := (List.getElem?_eq_some_iff.1 h1).1
   have : a = g.ρ.length := by simp at hlen; omega
   subst this
   rw [List.getElem?_append_right (Nat.le_refl _)] at h1
   rw [h.len, List.getElem?_append_right (Nat.le_refl _)] at h2
   simp at h1 h2
   exact .inl ⟨h1.symm, h2.symm⟩
 refine ⟨h.agree, by simp [h.len], ?_, ?_, h.gl⟩
 ·intro a q ob h1 h2
  rcases low a q ob h1 h2 with ⟨rfl, rfl⟩ | ⟨h1, h2⟩
  ·exact .inl rfl
  ·exact (h.obj a q ob h1 h2).keep (g.le_push _) rfl (fun _ => rfl)
 ·intro a a' q q' ob1 ob2 h1 h1' h2 h2' l1 l2 e
  rcases low a q ob1 h1 h2 with ⟨rfl, rfl⟩ | ⟨h1, h2⟩
  ·simp [Place.own] at l1
  ·rcases low a' q' ob2 h1' h2' with ⟨rfl, rfl⟩ | ⟨h1', h2'⟩
   ·simp [Place.own] at l2
   ·exact h.inj a a' q q' ob1 ob2 h1 h1' h2 h2' l1 l2 e

theorem Ev.vacant {g : Gh} {H : List AObj} (h : HR g H w) : Ev g H w { g with ρ := g.ρ ++ [⟨0, 0, 0, true⟩] } (H ++ [.tail]) w where
 le := g.le_push _
 os := rfl
 tape := rfl
 output := rfl
 size := Nat.le_refl _
 drawn := Nat.le_refl _
 keep _ _ _ := rfl
 imm _ _ _ _ := rfl
 live b hb := by
  obtain ⟨a, q, ob, h1, h2, l1, e⟩ := hb
  rcases Nat.lt_or_ge a g.ρ.length with hl | hl
  ·exact .inl ⟨a, q, ob, by rwa [List.getElem?_append_left hl] at h1, by rwa [List.getElem?_append_left (h.len ▸ hl)] at h2, l1, e⟩
  ·have hlen : a < (g.ρ ++ [(⟨0, 0, 0, true⟩ : Place)]).length := (List.getElem?_eq_some_iff.1 h1).1
   have : a = g.ρ.length := by simp at hlen; omega
   subst this
   rw [List.getElem?_append_right (Nat.le_refl _)] at h1
   rw [h.len, List.getElem?_append_right (Nat.le_refl _)] at h2
   simp at h1 h2
   subst h1 h2
   simp [Place.own] at l1

theorem Wk.vacant {n m : Nat} {env : List (Nat × V)} {H : List AObj} : Wk n m ⟨env, H⟩ ⟨env, H ++ [.tail]⟩ :=
 fun _ g _ _ _ _ h1 h2 h3 => ⟨_, h1.mono (g.le_push _), h2.vacant, h3.trans (.vacant h2)⟩

/-! Numbers of objects, turned. -/

def Tk.ren (f : Nat → Nat) : Tk → Tk
 | .tok o => .tok (f o)
 | tk => tk

mutual
def V.ren (f : Nat → Nat) : V → V
 | .ptr o p off => .ptr (f o) p off
 | .cptr v => .cptr (v.ren f)
 | .sl e tk xs => .sl e (tk.ren f) (V.renL f xs)
 | .slo e o p off lo len cap => .slo e (f o) p off lo len cap
 | .fn g a b => .fn g (V.renL f a) (V.renL f b)
 | .ifc t v => .ifc t (v.ren f)
 | .st vs => .st (V.renL f vs)
 | .arr e vs => .arr e (V.renL f vs)
 | .tup vs => .tup (V.renL f vs)
 | .map o => .map (f o)
 | v => v
def V.renL (f : Nat → Nat) : List V → List V
 | [] => []
 | v :: vs => v.ren f :: V.renL f vs
end

mutual
theorem V.ren_closed (f : Nat → Nat) : ∀ {v : V}, v.lt 0 = true → v.ren f = v
 | .ptr _ _ _, h => by simp [V.lt] at h
 | .cptr v, h => by simp only [V.lt] at h; simp only [V.ren, V.ren_closed f h]
 | .sl e tk xs, h => by
  simp only [V.lt, Bool.and_eq_true] at h
  have ht : tk.ren f = tk := by
   cases tk with
   | tok o => simp [Tk.lt] at h
   | no => rfl
   | nn => rfl
   | exact => rfl
  simp only [V.ren, V.renL_closed f h.2, ht]
 | .slo _ _ _ _ _ _ _, h => by simp [V.lt] at h
 | .fn _ _ _, h => by simp only [V.lt, Bool.and_eq_true] at h; simp only [V.ren, V.renL_closed f h.1, V.renL_closed f h.2]
 | .ifc _ _, h => by simp only [V.lt] at h; simp only [V.ren, V.ren_closed f h]
 | .st _, h => by simp only [V.lt] at h; simp only [V.ren, V.renL_closed f h]
 | .arr _ _, h => by simp only [V.lt] at h; simp only [V.ren, V.renL_closed f h]
 | .tup _, h => by simp only [V.lt] at h; simp only [V.ren, V.renL_closed f h]
 | .map _, h => by simp [V.lt] at h
 | .bool _, _ => by simp only [V.ren]
 | .int _ _, _ => by simp only [V.ren]
 | .str _, _ => by simp only [V.ren]
 | .nilp, _ => by simp only [V.ren]
 | .nils, _ => by simp only [V.ren]
 | .nilfn, _ => by simp only [V.ren]
 | .nili, _ => by simp only [V.ren]
 | .nilmap, _ => by simp only [V.ren]
 | .undef, _ => by simp only [V.ren]
theorem V.renL_closed (f : Nat → Nat) : ∀ {vs : List V}, V.ltL 0 vs = true → V.renL f vs = vs
 | [], _ => rfl
 | _ :: _, h => by simp only [V.ltL, Bool.and_eq_true] at h; simp only [V.renL, V.ren_closed f h.1, V.renL_closed f h.2]
end

structure Gh.turned (f : Nat → Nat) (m : Nat) (g g' : Gh) : Prop where
 imm : ∀ b i x, g.I b i = some x → g'.I b i = some x
 pre : ∀ (o : Nat) p, o < m → g.ρ[f o]? = some p → g'.ρ[o]? = some p

theorem Tk.ok.turned {f : Nat → Nat} {m : Nat} {g g' : Gh} (h : g.turned f m g') {e : Nat} {tk : Tk} {a : Option Addr} {len cap : Nat} (hl : tk.lt m = true) (k : (tk.ren f).ok g e a len cap) : tk.ok g' e a len cap := by
 cases tk with
 | no => trivial
 | nn => exact k
 | exact => exact k
 | tok o =>
  rcases k with k | ⟨p, ad, h1, h2⟩
  ·exact .inl k
  ·exact .inr ⟨p, ad, h.pre _ _ (Eq.mp Nat.blt_eq hl) h1, h2⟩

theorem V.renL_length (f : Nat → Nat) : ∀ (vs : List V), (V.renL f vs).length = vs.length
 | [] => rfl
 | _ :: vs => by simp [V.renL, V.renL_length f vs]

theorem V.ren_isAgg (f : Nat → Nat) (v : V) : (v.ren f).isAgg = v.isAgg := by cases v <;> simp [V.ren, V.isAgg]

mutual
theorem RC.turned {f : Nat → Nat} {m : Nat} {g g' : Gh} (h : g.turned f m g') : ∀ {v : V} {cs : List Value}, v.lt m = true → RC g (v.ren f) cs → RC g' v cs
 | .bool _, _, _, k => by simpa only [V.ren, RC] using k
 | .int _ _, _, _, k => by simpa only [V.ren, RC] using k
 | .str _, _, _, k => by simpa only [V.ren, RC] using k
 | .nilp, _, _, k => by simpa only [V.ren, RC] using k
 | .ptr _ _ _, _, hl, k => by
  simp only [V.ren, RC] at k ⊢
  obtain ⟨p, h1, h2⟩ := k
  exact ⟨p, h.pre _ _ (Eq.mp Nat.blt_eq (by simpa only [V.lt] using hl)) h1, h2⟩
 | .cptr _, _, hl, k => by
  simp only [V.ren, RC] at k ⊢
  obtain ⟨a, c, h1, h2, h3, h4⟩ := k
  exact ⟨a, c, h1, h2, RC.turned h (by simpa only [V.lt] using hl) h3, fun i x hx => h.imm _ _ _ (h4 i x hx)⟩
 | .nils, _, _, k => by simpa only [V.ren, RC] using k
 | .sl _ _ _, _, hl, k => by
  simp only [V.lt, Bool.and_eq_true] at hl
  simp only [V.ren, RC, V.renL_length] at k ⊢
  obtain ⟨a, cap, h1, h2, h3, c, h4, h5, h6⟩ := k
  exact ⟨a, cap, h1, h2, h3.turned h hl.1, c, RCu.turned h hl.2 h4, h5, fun ad e => ⟨fun hn => (h6 ad e).1 (fun e => hn (List.eq_nil_of_length_eq_zero (by rw [← V.renL_length, e]; rfl))), fun i x hx => h.imm _ _ _ ((h6 ad e).2 i x hx)⟩⟩
 | .slo _ _ _ _ _ _ _, _, hl, k => by
  simp only [V.ren, RC] at k ⊢
  obtain ⟨p, h1, h2⟩ := k
  exact ⟨p, h.pre _ _ (Eq.mp Nat.blt_eq (by simpa only [V.lt] using hl)) h1, h2⟩
 | .fn _ _ _, _, hl, k => by
  simp only [V.lt, Bool.and_eq_true] at hl
  simp only [V.ren, RC] at k ⊢
  obtain ⟨a, b, h1, h2, h3⟩ := k
  exact ⟨a, b, h1, RVl.turned h hl.1 h2, RVl.turned h hl.2 h3⟩
 | .nilfn, _, _, k => by simpa only [V.ren, RC] using k
 | .ifc _ _, _, hl, k => by
  simp only [V.ren, RC] at k ⊢
  obtain ⟨x, h1, h2, h3⟩ := k
  exact ⟨x, h1, by rw [← h2, V.ren_isAgg], RC.turned h (by simpa only [V.lt] using hl) h3⟩
 | .nili, _, _, k => by simpa only [V.ren, RC] using k
 | .st _, _, hl, k => by
  simp only [V.ren, RC] at k ⊢
  exact RCs.turned h (by simpa only [V.lt] using hl) k
 | .arr _ _, _, hl, k => by
  simp only [V.ren, RC] at k ⊢
  exact RCu.turned h (by simpa only [V.lt] using hl) k
 | .tup _, _, _, k => by simp only [V.ren, RC] at k
 | .map _, _, hl, k => by
  simp only [V.ren, RC] at k ⊢
  obtain ⟨p, h1, h2⟩ := k
  exact ⟨p, h.pre _ _ (Eq.mp Nat.blt_eq (by simpa only [V.lt] using hl)) h1, h2⟩
 | .nilmap, _, _, k => by simpa only [V.ren, RC] using k
 | .undef, _, _, k => by simp only [V.ren, RC] at k
theorem RCs.turned {f : Nat → Nat} {m : Nat} {g g' : Gh} (h : g.turned f m g') : ∀ {vs : List V} {cs : List Value}, V.ltL m vs = true → RCs g (V.renL f vs) cs → RCs g' vs cs
 | [], _, _, k => by simpa only [V.renL, RCs] using k
 | _ :: _, _, hl, k => by
  simp only [V.ltL, Bool.and_eq_true] at hl
  simp only [V.renL, RCs] at k ⊢
  obtain ⟨a, b, h1, h2, h3⟩ := k
  exact ⟨a, b, h1, RC.turned h hl.1 h2, RCs.turned h hl.2 h3⟩
theorem RCu.turned {f : Nat → Nat} {m : Nat} {g g' : Gh} (h : g.turned f m g') : ∀ {e : Nat} {vs : List V} {cs : List Value}, V.ltL m vs = true → RCu g e (V.renL f vs) cs → RCu g' e vs cs
 | _, [], _, _, k => by simpa only [V.renL, RCu] using k
 | _, _ :: _, _, hl, k => by
  simp only [V.ltL, Bool.and_eq_true] at hl
  simp only [V.renL, RCu] at k ⊢
  obtain ⟨a, b, h1, h0, h2, h3⟩ := k
  exact ⟨a, b, h1, h0, RC.turned h hl.1 h2, RCu.turned h hl.2 h3⟩
theorem RVl.turned {f : Nat → Nat} {m : Nat} {g g' : Gh} (h : g.turned f m g') : ∀ {vs : List V} {cs : List Value}, V.ltL m vs = true → RVl g (V.renL f vs) cs → RVl g' vs cs
 | [], _, _, k => by simpa only [V.renL, RVl] using k
 | _ :: _, _, hl, k => by
  simp only [V.ltL, Bool.and_eq_true] at hl
  simp only [V.renL, RVl] at k ⊢
  obtain ⟨a, b, h1, h0, h2, h3⟩ := k
  exact ⟨a, b, h1, by rw [← h0, V.ren_isAgg], RC.turned h hl.1 h2, RVl.turned h hl.2 h3⟩
end

theorem RV.turned {f : Nat → Nat} {m : Nat} {g g' : Gh} (h : g.turned f m g') {v : V} {x : Value} (hl : v.lt m = true) (k : RV g (v.ren f) x) : RV g' v x := by
 by_cases hu : v = .undef
 ·subst hu; trivial
 by_cases ht : ∃ vs, v = .tup vs
 ·obtain ⟨vs, rfl⟩ := ht
  simp only [V.lt] at hl
  simp only [V.ren] at k
  obtain ⟨xs, e, k⟩ := k
  exact ⟨xs, e, k.turned h hl⟩
 have hk : okV v = true := by cases v <;> first | rfl | exact absurd rfl hu | exact absurd ⟨_, rfl⟩ ht
 have hk' : okV (v.ren f) = true := by cases v <;> simp_all [V.ren, okV]
 obtain ⟨h1, h2⟩ := k.ok hk'
 exact RV.of (by rw [← h1, V.ren_isAgg]) (h2.turned h hl)

def esRen (f : Nat → Nat) : List (V × V) → List (V × V)
 | [] => []
 | kv :: r => (kv.1.ren f, kv.2.ren f) :: esRen f r

def AObj.ren (f : Nat → Nat) : AObj → AObj
 | .cells v => .cells (v.ren f)
 | .buf e vs => .buf e (V.renL f vs)
 | .map es => .map (esRen f es)
 | ob => ob

theorem REs.turned {f : Nat → Nat} {m : Nat} {g g' : Gh} (h : g.turned f m g') : ∀ {es : List (V × V)} {l : List MapEntry}, esLt m es = true → REs g (esRen f es) l → REs g' es l
 | [], _, _, k => k
 | _ :: _, _, hl, k => by
  simp only [esLt, Bool.and_eq_true] at hl
  obtain ⟨e, es, h1, h2, h3, h4⟩ := k
  exact ⟨e, es, h1, h2.turned h hl.1.1, h3.turned h hl.1.2, REs.turned h hl.2 h4⟩

mutual
theorem flen_ren (f : Nat → Nat) : ∀ (v : V), flen (v.ren f) = flen v
 | .st vs => by simp only [V.ren, flen]; exact flenL_ren f vs
 | .arr e vs => by simp only [V.ren, flen, V.renL_length]
 | .ptr _ _ _ => by simp only [V.ren, flen]
 | .cptr _ => by simp only [V.ren, flen]
 | .sl _ _ _ => by simp only [V.ren, flen]
 | .slo _ _ _ _ _ _ _ => by simp only [V.ren, flen]
 | .fn _ _ _ => by simp only [V.ren, flen]
 | .ifc _ _ => by simp only [V.ren, flen]
 | .tup _ => by simp only [V.ren, flen]
 | .map _ => by simp only [V.ren, flen]
 | .bool _ => by simp only [V.ren]
 | .int _ _ => by simp only [V.ren]
 | .str _ => by simp only [V.ren]
 | .nilp => by simp only [V.ren]
 | .nils => by simp only [V.ren]
 | .nilfn => by simp only [V.ren]
 | .nili => by simp only [V.ren]
 | .nilmap => by simp only [V.ren]
 | .undef => by simp only [V.ren]
theorem flenL_ren (f : Nat → Nat) : ∀ (vs : List V), flenL (V.renL f vs) = flenL vs
 | [] => rfl
 | v :: vs => by simp only [V.renL, flenL, flen_ren f v, flenL_ren f vs]
end

/-- Objects numbered anew; those that are left out nothing names any more. -/
inductive SelE (f : Nat → Nat) (m : Nat) (env : List (Nat × V)) : List (Nat × V) → Prop where
 | nil : SelE f m env []
 | cons {t : Nat} {v : V} {r : List (Nat × V)} (hl : v.lt m = true) (hs : (look env t).sub (v.ren f)) (k : SelE f m env r) : SelE f m env ((t, v) :: r)

inductive SelH (f : Nat → Nat) (m : Nat) (H : List AObj) : List Nat → List AObj → Prop where
 | nil : SelH f m H [] []
 | cons {i : Nat} {ob : AObj} {is : List Nat} {r : List AObj} (hl : ob.lt m = true) (hs : H[i]? = some (ob.ren f)) (k : SelH f m H is r) : SelH f m H (i :: is) (ob :: r)

theorem SelE.look {f : Nat → Nat} {m : Nat} {env env' : List (Nat × V)} (h : SelE f m env env') (t : Nat) : (look env' t).lt m = true ∧ ((Av.look env t).sub ((Av.look env' t).ren f)) := by
 induction h with
 | nil => exact ⟨rfl, .undef _⟩
 | cons hl hs _ ih =>
  simp only [look_cons]
  split
  ·rename_i e; subst e; exact ⟨hl, hs⟩
  ·exact ih

theorem SelH.get {f : Nat → Nat} {H H' : List AObj} (h : SelH f m H ids H') : ids.length = H'.length ∧ ∀ (k : Nat) (ob : AObj), H'[k]? = some ob → ∃ i, ids[k]? = some i ∧ ob.lt m = true ∧ H[i]? = some (ob.ren f) := by
 induction h with
 | nil => exact ⟨rfl, fun k ob h => by simp at h⟩
 | cons hl hs _ ih =>
  refine ⟨by simp [ih.1], fun k ob h => ?_⟩
  cases k with
  | zero => simp at h; subst h; exact ⟨_, rfl, hl, hs⟩
  | succ k => simp at h; exact ih.2 k ob h

theorem Wk.sel {n : Nat} {s : St} (ids : List Nat) {env' : List (Nat × V)} {H' : List AObj}
  (hnd : ids.Nodup) (hm : ids.take m = List.range m) (he : SelE (fun k => ids.getD k 0) ids.length s.env env') (hH : SelH (fun k => ids.getD k 0) ids.length s.H ids H') : Wk n m s ⟨env', H'⟩ := by
 intro B g a w b1 b2 h1 h2 h3
 obtain ⟨hlen, hget⟩ := hH.get
 let ρ' := ids.map fun i => g.ρ.getD i ⟨0, 0, 0, true⟩
 have hρ : ∀ (k : Nat) (p : Place), k < ids.length → g.ρ[ids.getD k 0]? = some p → ρ'[k]? = some p := by
  intro k p hk hp
  simp only [ρ', List.getElem?_map]
  have : ids[k]? = some (ids.getD k 0) := by simp [List.getD, hk]
  rw [this, Option.map_some, List.getD_eq_getElem?_getD (l := g.ρ), hp]
  rfl
 have hρ' : ∀ (k : Nat) (q : Place) (ob : AObj), ρ'[k]? = some q → H'[k]? = some ob → ∃ i, ids[k]? = some i ∧ ob.lt ids.length = true ∧ s.H[i]? = some (ob.ren (fun k => ids.getD k 0)) ∧ g.ρ[i]? = some q := by
  intro k q ob hq hob
  obtain ⟨i, h1, h2, h3⟩ := hget k ob hob
  refine ⟨i, h1, h2, h3, ?_⟩
  simp only [ρ', List.getElem?_map, h1, Option.map_some, Option.some.injEq] at hq
  have hi : i < g.ρ.length := by rw [‹HR g s.H w›.len]; exact (List.getElem?_eq_some_iff.1 h3).1
  rw [← hq]
  simp [List.getD, hi]
 have tr : g.turned (fun k => ids.getD k 0) ids.length { g with ρ := ρ' } := ⟨fun _ _ _ h => h, fun o p ho hp => hρ o p ho hp⟩
 have own : ∀ (q : Place) (ob : AObj), q.own (ob.ren (fun k => ids.getD k 0)) = q.own ob := by intro q ob; cases ob <;> rfl
 refine ⟨{ g with ρ := ρ' }, ⟨fun t => ?_, h1.size, h1.defers⟩, ⟨h2.agree, by simp [ρ', hlen], ?_, ?_, h2.gl⟩, ?_⟩
 ·obtain ⟨q1, q2⟩ := he.look t
  exact (q2 g _ (h1.env t)).turned tr q1
 ·intro k q ob hq hob
  obtain ⟨i, e1, e2, e3, e4⟩ := hρ' k q ob hq hob
  have := h2.obj i q _ e4 e3
  cases ob with
  | cells v =>
   obtain ⟨cs, cty, q1, ⟨j, q2, q3⟩, q4⟩ := this
   simp only [flen_ren] at q2 q3
   exact ⟨cs, cty, q1, ⟨j, q2, q3.turned tr (by simpa only [AObj.lt] using e2)⟩, q4⟩
  | buf e vs =>
   rcases this with ⟨x, y⟩ | ⟨q0, cs, ty, q1, ⟨c, j, q2, q3⟩, q4⟩
   ·exact .inl ⟨x, List.eq_nil_of_length_eq_zero (by rw [← V.renL_length (fun k => ids.getD k 0), y]; rfl)⟩
   ·exact .inr ⟨q0, cs, ty, q1, ⟨c, j, q2, q3.turned tr (by simpa only [AObj.lt] using e2)⟩, q4⟩
  | tail => exact this
  | map es => obtain ⟨en, cl, q1, q2, q3⟩ := this; exact ⟨en, cl, q1, q2.turned tr (by simpa only [AObj.lt] using e2), q3⟩
  | dead => trivial
 ·intro k k' q q' ob1 ob2 hq hq' ho ho' l1 l2 e
  obtain ⟨i, e1, _, e3, e4⟩ := hρ' k q ob1 hq ho
  obtain ⟨i', e1', _, e3', e4'⟩ := hρ' k' q' ob2 hq' ho'
  have hii := h2.inj i i' q q' _ _ e4 e4' e3 e3' (by rw [own]; exact l1) (by rw [own]; exact l2) e
  subst hii
  have hk := (List.getElem?_eq_some_iff.1 e1).1
  have hk' := (List.getElem?_eq_some_iff.1 e1').1
  exact (List.getElem_inj (h₀ := hk) (h₁ := hk') hnd).1 (by rw [(List.getElem?_eq_some_iff.1 e1).2, (List.getElem?_eq_some_iff.1 e1').2])
 ·refine ⟨⟨h3.le.imm, fun o p hp => ?_⟩, h3.os, h3.tape, h3.output, h3.size, h3.drawn, h3.keep, h3.imm, ?_⟩
  ·have ho : o < m := by rw [← b2]; exact (List.getElem?_eq_some_iff.1 hp).1
   have hlt : (ids.take m).length = m := by rw [hm]; simp
   have hol : o < ids.length := by rw [List.length_take] at hlt; omega
   refine hρ o p hol ?_
   have : ids.getD o 0 = o := by
    have h5 : (ids.take m)[o]? = some o := by rw [hm]; simp [ho]
    rw [List.getElem?_take_of_lt ho] at h5
    simp [List.getD, h5]
   rw [this]
   exact h3.le.pre o p hp
  ·rintro b ⟨k, q, ob, hq, hob, l1, e⟩
   obtain ⟨i, _, _, e3, e4⟩ := hρ' k q ob hq hob
   exact h3.live b ⟨i, q, _, e4, e3, by rw [own]; exact l1, e⟩

/-! Calls. -/

def enters (P : Program) (f : FuncId) : Bool :=
 match P.funcs[f]? with
 | some fn => fn.name != "runtime.NumGoroutine" && fn.body.isSome
 | none => false

/-- A call that only computes. -/
def PureC (P : Program) (f : FuncId) (args : List V) (r : V) : Prop := ∀ H, CallSpec P f args H fun o H' => o = .ret r ∧ H' = H

theorem PureC.of {P : Program} {f : FuncId} {args : List V} {r : V} (h : CallSpec P f args [] fun o _ => o = .ret r) (ha : V.ltL 0 args = true) (hr : r.lt 0 = true) : PureC P f args r :=
 fun H => (h.frame ha (fun o _ e => by subst e; exact hr) H).mono fun _ _ ⟨⟨_, h1⟩, h2⟩ => ⟨h1, h2⟩

theorem PureC.sub {P : Program} {f : FuncId} {args args' : List V} {r : V} (h : PureC P f args' r) (k : SubL args args') : PureC P f args r := fun H => (h H).sub k

def okL : List V → Bool
 | [] => true
 | v :: vs => okV v && okL vs

theorem RVl.rvs {g : Gh} : ∀ {vs : List V} {xs : List Value}, RVl g vs xs → RVs g vs xs
 | [], _, h => by simp only [RVl] at h; exact h
 | _ :: _, _, h => by
  simp only [RVl] at h
  obtain ⟨x, r, rfl, h1, h2, h3⟩ := h
  exact ⟨x, r, rfl, RV.of h1 h2, h3.rvs⟩

theorem RVs.append {g : Gh} : ∀ {vs vs' : List V} {xs xs' : List Value}, RVs g vs xs → RVs g vs' xs' → RVs g (vs ++ vs') (xs ++ xs')
 | [], _, _, _, h, k => by simp only [RVs] at h; subst h; exact k
 | _ :: _, _, _, _, h, k => by
  obtain ⟨x, r, rfl, h1, h2⟩ := h
  exact ⟨x, _, rfl, h1, h2.append k⟩

theorem RVs.map {g : Gh} {E : Operand → V} {rc : Operand → Value} : ∀ {l : List Operand}, (∀ x ∈ l, RV g (E x) (rc x)) → RVs g (l.map E) (l.map rc)
 | [], _ => rfl
 | x :: l, h => ⟨rc x, _, rfl, h x (by simp), RVs.map fun y hy => h y (by simp [hy])⟩

theorem RVs.rvl {g : Gh} : ∀ {vs : List V} {xs : List Value}, RVs g vs xs → okL vs = true → RVl g vs xs
 | [], _, h, _ => by simp only [RVl]; exact h
 | _ :: _, _, h, hk => by
  simp only [okL, Bool.and_eq_true] at hk
  obtain ⟨x, r, rfl, h1, h2⟩ := h
  simp only [RVl]
  obtain ⟨q1, q2⟩ := h1.ok hk.1
  exact ⟨x, r, rfl, q1, q2, h2.rvl hk.2⟩

section
variable {P : Program} {E : Operand → V} {H H' : List AObj} {dst : Option Tmp} {ty : TypeId} {pos : String} {aft : Array Edge} {gd : Option (Nat × Bool)}

theorem RV.fn_eq {g : Gh} {f : FuncId} {a b : List V} {x : Value} (h : RV g (.fn f a b) x) : ∃ a' b' : Array Value, x = .func (.func f) a' b' ∧ RVl g a a'.toList ∧ RVl g b b'.toList := by
 have := h.leafval rfl rfl
 simp only [RC, List.cons.injEq, and_true] at this
 exact this

theorem OpS.call {x : Operand} {args : Array Operand} {ats : Array TypeId} {f : FuncId} {first cap : List V} {v : V} {R : Out → List AObj → Prop} (hE : enters P f = true) (hx : E x = .fn f first cap)
  (hs : CallSpec P f (first ++ args.toList.map E ++ cap) H R) (hR : ∀ o H'', R o H'' → o = .ret v ∧ H'' = H') : OpS P ⟨dst, .call ⟨.value x, args, ats⟩, ty, pos, aft, gd⟩ E H v H' := by
 intro g rc w h hr
 obtain ⟨a', b', e, h1, h2⟩ := (hx ▸ h x (by simp [Op.operands, Call.operands])).fn_eq
 have hargs : RVs g (args.toList.map E) (args.toList.map rc) := RVs.map fun y hy => h y (by simp [Op.operands, Call.operands]; exact .inr (by simpa using hy))
 have hall := (h1.rvs.append hargs).append h2.rvs
 have hrun : (execOp rc ⟨dst, .call ⟨.value x, args, ats⟩, ty, pos, aft, gd⟩).run P w = .ok (.enter f (a' ++ args.map rc ++ b')) w := by
  unfold enters at hE
  split at hE
  ·rename_i fn hfn
   simp only [Bool.and_eq_true, bne_iff_ne, ne_eq] at hE
   have hb : ¬ fn.body = none := by intro hq; rw [hq] at hE; simp at hE
   simp [execOp, resolve, e, Deferred.ofValue, invoke, callFunc, hfn, hE.1, hb]
  ·cases hE
 rw [hrun]
 refine Calls.mono (R := fun e w' => ∃ g' H'' o, R o H'' ∧ OutRel g' e o ∧ HR g' H'' w' ∧ Ev g H w g' H'' w') ?_ ?_
 ·have := hs g w (a'.toList ++ args.toList.map rc ++ b'.toList) hall hr
  have e2 : (a'.toList ++ args.toList.map rc ++ b'.toList).toArray = a' ++ args.map rc ++ b' := by apply Array.ext'; simp
  rwa [e2] at this
 ·rintro e w' ⟨g', H'', o, q1, q2, q3, q4⟩
  obtain ⟨rfl, rfl⟩ := hR o H'' q1
  cases e <;> simp only [OutRel] at q2
  exact ⟨g', q2, q3, q4⟩

/-- A call that only computes: whatever objects there are. -/
theorem OpS.callP {args : Array Operand} {f : FuncId} {first cap args' : List V} {v : V} (hE : enters P f = true) (hx : E x = .fn f first cap)
  (hs : PureC P f args' v) (ha : SubL (first ++ args.toList.map E ++ cap) args') : OpS P ⟨dst, .call ⟨.value x, args, ats⟩, ty, pos, aft, gd⟩ E H v H :=
 .call hE hx (hs.sub ha H) fun _ _ h => h

theorem OpS.makeFunc {f : FuncId} {first cap : Array Operand} {a b : List V} (ha : first.toList.map E = a) (hb : cap.toList.map E = b) (hk : okL a = true) (hk' : okL b = true) :
  OpS P ⟨dst, .makeFunc (.func f) first cap, ty, pos, aft, gd⟩ E H (.fn f a b) H :=
 .quiet fun g rc w h _ => by
  subst ha hb
  refine ⟨.func (.func f) (first.map rc) (cap.map rc), by simp [execOp, Instr.makeFunc], RV.of_leaf rfl ?_⟩
  simp only [RC]
  refine ⟨_, _, rfl, ?_, ?_⟩
  ·have := (RVs.map (g := g) (E := E) (rc := rc) (l := first.toList) fun y hy => h y (by simp [Op.operands]; exact .inl (by simpa using hy))).rvl hk
   simpa using this
  ·have := (RVs.map (g := g) (E := E) (rc := rc) (l := cap.toList) fun y hy => h y (by simp [Op.operands]; exact .inr (by simpa using hy))).rvl hk'
   simpa using this

end
section
variable {g : Gh} {p : Place} {ys : List V} {vx vy : V}

/-- One object more. -/
theorem HR.add {H : List AObj} (h : HR g H w) (p : Place) (ob : AObj) (ho : ORel { g with ρ := g.ρ ++ [p] } w p ob)
  (hd : p.own ob = true → ∀ (o : Nat) (q : Place) (ob' : AObj), g.ρ[o]? = some q → H[o]? = some ob' → q.own ob' = true → q.block ≠ p.block) : HR { g with ρ := g.ρ ++ [p] } (H ++ [ob]) w := by
 have low : ∀ (a : Nat) (q : Place) (ob1 : AObj), (g.ρ ++ [p])[a]? = some q → (H ++ [ob])[a]? = some ob1 → (a = g.ρ.length ∧ q = p ∧ ob1 = ob) ∨ (g.ρ[a]? = some q ∧ H[a]? = some ob1) := by
  intro a q ob1 h1 h2
  rcases Nat.lt_or_ge a g.ρ.length with hl | hl
  ·exact .inr ⟨by rwa [List.getElem?_append_left hl] at h1, by rwa [List.getElem?_append_left (h.len ▸ hl)] at h2⟩
  ·have hlen : a < (g.ρ ++ [p]).length := (List.getElem?_eq_some_iff.1 h1).1
   have : a = g.ρ.length := by simp at hlen; omega
   subst this
   rw [List.getElem?_append_right (Nat.le_refl _)] at h1
   rw [h.len, List.getElem?_append_right (Nat.le_refl _)] at h2
   simp at h1 h2
   exact .inl ⟨rfl, h1.symm, h2.symm⟩
 refine ⟨h.agree, by simp [h.len], ?_, ?_, h.gl⟩
 ·intro a q ob1 h1 h2
  rcases low a q ob1 h1 h2 with ⟨_, rfl, rfl⟩ | ⟨h1, h2⟩
  ·exact ho
  ·exact (h.obj a q ob1 h1 h2).keep (g.le_push _) rfl (fun _ => rfl)
 ·intro a a' q q' ob1 ob2 h1 h1' h2 h2' l1 l2 e
  rcases low a q ob1 h1 h2 with ⟨ea, rfl, rfl⟩ | ⟨k1, k2⟩ <;> rcases low a' q' ob2 h1' h2' with ⟨ea', rfl, rfl⟩ | ⟨k1', k2'⟩
  ·omega
  ·exact absurd e.symm (hd l1 a' q' ob2 k1' k2' l2)
  ·exact absurd e (hd l2 a q ob1 k1 k2 l1)
  ·exact h.inj a a' q q' ob1 ob2 k1 k1' k2 k2' l1 l2 e

theorem Lv.push {H : List AObj} {ob : AObj} {b : Nat} (hl : g.ρ.length = H.length) (h : Lv { g with ρ := g.ρ ++ [p] } (H ++ [ob]) b) : Lv g H b ∨ p.block = b := by
 obtain ⟨a, q, ob1, h1, h2, l1, e⟩ := h
 rcases Nat.lt_or_ge a g.ρ.length with hlt | hge
 ·exact .inl ⟨a, q, ob1, by rwa [List.getElem?_append_left hlt] at h1, by rwa [List.getElem?_append_left (hl ▸ hlt)] at h2, l1, e⟩
 ·have hlen : a < (g.ρ ++ [p]).length := (List.getElem?_eq_some_iff.1 h1).1
  have : a = g.ρ.length := by simp at hlen; omega
  subst this
  rw [List.getElem?_append_right (Nat.le_refl _)] at h1
  simp at h1
  subst h1
  exact .inr e

theorem RCu.append {g : Gh} {e : Nat} : ∀ {xs ys : List V} {c d : List Value}, RCu g e xs c → RCu g e ys d → RCu g e (xs ++ ys) (c ++ d)
 | [], _, _, _, h, k => by simp only [RCu] at h; subst h; exact k
 | _ :: _, _, _, _, h, k => by
  simp only [RCu] at h
  obtain ⟨a, b, rfl, h1, h2, h3⟩ := h
  simp only [List.cons_append, RCu]
  exact ⟨a, _, by simp, h1, h2, h3.append k⟩

theorem RCu.drop {g : Gh} {e : Nat} : ∀ {xs : List V} {c : List Value} (n : Nat), RCu g e xs c → RCu g e (xs.drop n) (c.drop (n * e))
 | xs, c, 0, h => by simpa using h
 | [], c, n + 1, h => by simp only [RCu] at h; subst h; simp [RCu]
 | x :: xs, c, n + 1, h => by
  simp only [RCu] at h
  obtain ⟨a, b, rfl, h1, h2, h3⟩ := h
  rw [List.drop_succ_cons, Nat.succ_mul, Nat.add_comm, ← h1]
  rw [List.drop_append]
  have : List.drop (a.length + n * a.length) a = [] := List.drop_eq_nil_of_le (by omega)
  rw [this, List.nil_append, show a.length + n * a.length - a.length = n * a.length from by omega, h1]
  exact h3.drop n

theorem RCu.take {g : Gh} {e : Nat} : ∀ {xs : List V} {c : List Value} (n : Nat), RCu g e xs c → RCu g e (xs.take n) (c.take (n * e))
 | xs, c, 0, h => by simp [RCu]
 | [], c, n + 1, h => by simp only [RCu] at h; subst h; simp [RCu]
 | x :: xs, c, n + 1, h => by
  simp only [RCu] at h
  obtain ⟨a, b, rfl, h1, h2, h3⟩ := h
  rw [List.take_succ_cons, Nat.succ_mul, Nat.add_comm, ← h1, List.take_append]
  have : List.take (a.length + n * a.length) a = a := List.take_of_length_le (by omega)
  rw [this, show a.length + n * a.length - a.length = n * a.length from by omega, h1]
  simp only [RCu]
  exact ⟨a, _, rfl, h1, h2, h3.take n⟩

theorem run_firstCells {P : Program} {a : Option Addr} {n e : Nat} {c : List Value} (hn : n = ys.length) (hc : RCu g e ys c) (ha : a = none → ys = [])
  (h : ∀ ad, a = some ad → (ys ≠ [] → ad.spot = none) ∧ ∀ (i : Nat) y, c[i]? = some y → w.cell? ⟨ad.block, ad.off + i, none⟩ = some y) : (Builtin.firstCells e n (.slice a n cap)).run P w = .ok c.toArray w := by
 cases a with
 | none =>
  have := ha rfl
  subst this
  simp only [RCu] at hc
  subst hc
  rfl
 | some ad =>
  obtain ⟨h1, h2⟩ := h ad rfl
  have := run_loadCells_list (P := P) w ad c (fun j y hy => by rw [add_addr' (h1 (by rintro rfl; simp only [RCu] at hc; subst hc; simp at hy))]; exact h2 j y hy)
  rw [hc.len, ← hn] at this
  exact this

/-- A slice, or a string, that can be read: so many values, of so many cells each. -/
def Rd (v : V) (H : List AObj) (e : Nat) (ys : List V) : Prop :=
 ∀ g w x, RV g v x → HR g H w → ∃ c : List Value, RCu g e ys c ∧ ∀ (P : Program) (w' : World), w'.heap = w.heap → (Builtin.lenOf x).run P w' = .ok ys.length w' ∧ (Builtin.firstCells e ys.length x).run P w' = .ok c.toArray w'

theorem rd_of {e : Nat} {a : Option Addr} {c : List Value} (hc : RCu g e ys c) (ha : a = none → ys = [])
  (h : ∀ ad, a = some ad → (ys ≠ [] → ad.spot = none) ∧ ∀ (i : Nat) y, c[i]? = some y → w.cell? ⟨ad.block, ad.off + i, none⟩ = some y) :
  ∃ c : List Value, RCu g e ys c ∧ ∀ (P : Program) (w' : World), w'.heap = w.heap → (Builtin.lenOf (.slice a ys.length cap)).run P w' = .ok ys.length w' ∧ (Builtin.firstCells e ys.length (.slice a ys.length cap)).run P w' = .ok c.toArray w' :=
 ⟨c, hc, fun _ w' hh => ⟨rfl, run_firstCells rfl hc ha fun ad e => ⟨(h ad e).1, fun i y hy => by simp only [World.cell?, hh]; exact (h ad e).2 i y hy⟩⟩⟩

theorem Rd.sl {e : Nat} {tk : Tk} {ys : List V} {H : List AObj} : Rd (.sl e tk ys) H e ys := by
 intro g w x h hr
 obtain ⟨a, cap, rfl, h2, _, c, h4, h5, h6⟩ := h.sl_eq
 refine rd_of h4 (fun ha => ?_) (fun ad ha => ⟨(h6 ad ha).1, fun i y hy => hr.agree _ _ _ ((h6 ad ha).2 i y hy)⟩)
 have := h5 ha
 exact List.eq_nil_of_length_eq_zero (by omega)

theorem Rd.nils {e : Nat} {H : List AObj} : Rd .nils H e [] := by
 intro g w x h hr
 have := h.nils_eq
 subst this
 exact rd_of (a := none) (c := []) (by simp [RCu]) (fun _ => rfl) (fun ad h => by cases h)

theorem Rd.slo {e o : Nat} {path : List Nat} {off lo len cap : Nat} {v : V} {zs : List V} {H : List AObj} (ho : H[o]? = some (.cells v)) (hu : v.at path = some (.arr e zs)) (hoff : v.offOf path 0 = off) (hl : lo + len ≤ zs.length) :
  Rd (.slo e o path off lo len cap) H e ((zs.drop lo).take len) := by
 intro g w x h hr
 obtain ⟨p, h1, a, cp, rfl, h3, h4⟩ := h.slo_eq
 rcases h4 with ⟨_, rfl⟩ | ⟨rfl, _⟩
 ·obtain rfl : len = 0 := by omega
  rw [List.take_zero]
  exact rd_of (cap := 0) (c := []) (by simp [RCu]) (fun _ => rfl) (fun ad _ => ⟨fun hn => absurd rfl hn, fun i y hy => by simp at hy⟩)
 obtain ⟨c, hc, hcell⟩ := hr.cells h1 ho hu
 simp only [RC] at hc
 subst hoff
 have hl' : ((zs.drop lo).take len).length = len := by rw [List.length_take, List.length_drop, Nat.min_eq_left (by omega)]
 rw [show (Value.slice (some ⟨p.block, v.offOf path 0 + lo * e, none⟩) len cp) = .slice (some ⟨p.block, v.offOf path 0 + lo * e, none⟩) ((zs.drop lo).take len).length cp from by rw [hl']]
 refine rd_of (c := (c.drop (lo * e)).take (len * e)) ((hc.drop lo).take len) (by intro h; cases h) ?_
 rintro ad h
 cases h
 refine ⟨fun _ => rfl, fun i y hy => ?_⟩
 have hi : i < ((c.drop (lo * e)).take (len * e)).length := (List.getElem?_eq_some_iff.1 hy).1
 rw [List.getElem?_take_of_lt (by simp at hi; omega), List.getElem?_drop] at hy
 have := hcell (lo * e + i) y hy
 simpa [Nat.add_assoc] using this

theorem growBy_le (m : Nat) : ∀ (r c : Nat), 256 ≤ c → c < m → Builtin.growBy m r c ≤ 2 * m
 | 0, c, _, _ => by simp only [Builtin.growBy]; omega
 | r + 1, c, h, hm => by
  simp only [Builtin.growBy]
  rw [if_neg (by omega)]
  rcases Nat.lt_or_ge (c + (c + 768) / 4) m with hl | hg
  ·exact growBy_le m r _ (by omega) hl
  ·cases r with
   | zero => simp only [Builtin.growBy]; omega
   | succ r => simp only [Builtin.growBy]; rw [if_pos hg]; omega

theorem nextslicecap_le {need : Nat} (h : cap < need) : Builtin.nextslicecap need cap ≤ 2 * need := by
 unfold Builtin.nextslicecap
 split
 ·omega
 ·split
  ·omega
  ·exact growBy_le need 4 cap (by omega) h

section
variable {P : Program} {E : Operand → V} {H : List AObj} {dst : Option Tmp} {ty : TypeId} {pos : String} {aft : Array Edge} {gd : Option (Nat × Bool)}

/-- What is appended is no number. -/
def NoI (P : Program) (t : TypeId) : Prop := (∃ u, P.underlying t = some (.slice u)) ∨ P.underlying t = some .string

def putIn (base : Option Addr) (off : Nat) (c : List Value) : Sem Unit := match base with | some b => storeCells (b.add off) c | none => pure ()

theorem run_append_in {st : TypeId} {e : Nat} {base : Option Addr} {sLen sCap n : Nat} {c : List Value} {x : Value} (hst : sliOf P st = some (et, e, eag, by_))
  (hxt : NoI P xt) (hfit : sLen + n ≤ sCap) (hx : (Builtin.lenOf x).run P w = .ok n w ∧ (Builtin.firstCells e n x).run P w = .ok c.toArray w) :
  (Builtin.append_ #[st, xt] ty #[.slice base sLen sCap, x]).run P w =
   ((putIn base (sLen * e) c).run P w).andThen fun _ w' => .ok (.slice base (sLen + n) sCap) w' := by
 obtain ⟨hut, hsz, _, _⟩ := sliOf_get hst
 obtain ⟨hl, hf⟩ := hx
 unfold Builtin.append_
 rcases hxt with ⟨u, hxt⟩ | hxt
 all_goals
  simp only [List.getElem?_toArray, List.getElem?_cons_zero, List.getElem?_cons_succ, Sem.run_bind, run_underlying hut, Result.andThen_ok, run_sizeOf' hsz, run_underlying hxt, Sem.run_pure, Bool.false_eq_true, if_false,
   hl, hfit, if_true, Bool.not_false, hf]
  cases base with
  | none => rfl
  | some b => simp only [Sem.run_bind, Sem.run_pure, putIn]

theorem run_append_new {st : TypeId} {e : Nat} {base : Option Addr} {sLen sCap n : Nat} {c c0 : List Value} {xs : List V} {zv x : Value} (hst : sliOf P st = some (et, e, eag, by_))
  (hxt : NoI P xt) (hfit : sCap < sLen + n) (hby : 0 < by_) (hroom : (sLen + n) * by_ ≤ 2 ^ 47) (hzv : (zeroValue et).run P w.drew = .ok zv w.drew)
  (hx : ∀ (P : Program) (w' : World), w'.heap = w.heap → (Builtin.lenOf x).run P w' = .ok n w' ∧ (Builtin.firstCells e n x).run P w' = .ok c.toArray w')
  (hn0 : sLen = xs.length) (hc0 : RCu g e xs c0) (ha0 : base = none → xs = [])
  (h0 : ∀ ad, base = some ad → (xs ≠ [] → ad.spot = none) ∧ ∀ (i : Nat) y, c0[i]? = some y → w.cell? ⟨ad.block, ad.off + i, none⟩ = some y) :
  ∃ newCap, sLen + n ≤ newCap ∧ (Builtin.append_ #[st, xt] ty #[.slice base sLen sCap, x]).run P w =
   .ok (.slice (some ⟨w.heap.size, 0, none⟩) (sLen + n) newCap) (w.drew.alloc (.cells (c0.toArray ++ c.toArray ++ Builtin.zeroCells zv.cells (newCap - (sLen + n))) et)) := by
 obtain ⟨hut, hsz, _, hbytes⟩ := sliOf_get hst
 have hl := (hx P w rfl).1
 have hf := (hx P w.drew rfl).2
 have hf0 := run_firstCells (P := P) (w := w.drew) (cap := sCap) hn0 hc0 ha0 h0
 obtain ⟨ti, hti, htb⟩ : ∃ ti, P.info? et = some ti ∧ ti.bytes = by_ := by
  unfold szOf at hsz
  cases hq : P.info? et with
  | none => simp [hq] at hsz
  | some ti => exact ⟨ti, rfl, by simpa [hq] using hbytes⟩
 have hty : ∀ w : World, (typeInfo et).run P w = .ok ti w := by intro w; simp [typeInfo, hti]
 have hnc : ¬ (Builtin.nextslicecap (sLen + n) sCap * by_ > 2 ^ 48) := by
  have := nextslicecap_le hfit
  have h2 : Builtin.nextslicecap (sLen + n) sCap * by_ ≤ 2 * (sLen + n) * by_ := Nat.mul_le_mul_right _ this
  have h3 : 2 * (sLen + n) * by_ = 2 * ((sLen + n) * by_) := Nat.mul_assoc _ _ _
  omega
 refine ⟨(Question.appendCap (sLen + n) sCap et).cut (w.tape w.drawn (.appendCap (sLen + n) sCap et)), by simp only [Question.cut]; omega, ?_⟩
 have hnf : ¬ (sLen + n ≤ sCap) := by omega
 have hb0 : ¬ by_ = 0 := by omega
 have hdrew : ({ w with drawn := w.drawn + 1 } : World) = w.drew := rfl
 unfold Builtin.append_
 rcases hxt with ⟨u, hxt⟩ | hxt
 all_goals
  simp only [List.getElem?_toArray, List.getElem?_cons_zero, List.getElem?_cons_succ, Sem.run_bind, run_underlying hut, Result.andThen_ok, run_sizeOf' hsz, run_underlying hxt, Sem.run_pure, Bool.false_eq_true, if_false,
   hl, hnf, Bool.not_false, if_true, false_or, hty, htb, hb0, and_false, hnc, run_choose, Question.forced, hdrew, run_askRoom, hf, hf0, hzv, newRow, run_newObj]
  rfl

theorem run_append_exec {rc : Operand → Value} {vx vy : Value} (ex : rc x = vx) (ey : rc y = vy) :
  (execOp rc ⟨dst, .call ⟨.builtin .append, #[x, y], ats⟩, ty, pos, aft, gd⟩).run P w = ((Builtin.append_ ats ty #[vx, vy]).run P w).andThen fun v w' => .ok (.value v) w' := by
 subst ex ey
 simp [execOp, resolve, invoke, Go.builtin]

theorem zeroCells_size (z : Array Value) (n : Nat) : (Builtin.zeroCells z n).size = n * z.size := by simp [Builtin.zeroCells]

/-- What is made by an append that has no room, its own room behind it told. -/
theorem append_new_tok (hr : HR g H w) {e : Nat} {xs : List V} {c0 c : List Value} {zv : Value} {newCap : Nat} (hzs : zv.cells.size = e)
  (hc0 : RCu g e xs c0) (hc : RCu g e ys c) (hnc : xs.length + ys.length ≤ newCap) :
  ∃ g', RV g' (.sl e (.tok H.length) (xs ++ ys)) (.slice (some ⟨w.heap.size, 0, none⟩) (xs.length + ys.length) newCap) ∧
   HR g' (H ++ [.tail]) (w.drew.alloc (.cells (c0.toArray ++ c.toArray ++ Builtin.zeroCells zv.cells (newCap - (xs.length + ys.length))) et)) ∧
   Ev g H w g' (H ++ [.tail]) (w.drew.alloc (.cells (c0.toArray ++ c.toArray ++ Builtin.zeroCells zv.cells (newCap - (xs.length + ys.length))) et)) := by
 have hsize : (Builtin.zeroCells zv.cells (newCap - (xs.length + ys.length))).size = (newCap - (xs.length + ys.length)) * e := by rw [zeroCells_size, hzs]
 generalize Builtin.zeroCells zv.cells (newCap - (xs.length + ys.length)) = rest at *
 have hr1 : HR g H w.drew := hr.drew rfl
 have hr2 := hr1.lay (c0.toArray ++ c.toArray ++ rest) et (c0 ++ c) rest.toList (by simp)
 have hev2 := Ev.lay hr1 (.cells (c0.toArray ++ c.toArray ++ rest) et) (c0 ++ c)
 have hcat := hc0.append hc
 have hlc : (c0 ++ c).length = (xs.length + ys.length) * e := by rw [hcat.len, List.length_append]
 have hcs : (c0.toArray ++ c.toArray ++ rest).size = newCap * e := by
  have h1 : (c0.toArray ++ c.toArray ++ rest).size = (c0 ++ c).length + rest.size := by simp
  rw [h1, hlc, hsize, ← Nat.add_mul]
  congr 1; omega
 have hws : w.drew.heap.size = w.heap.size := rfl
 let p : Place := ⟨w.heap.size, (xs.length + ys.length) * e, newCap * e, false⟩
 have hb := heap_alloc_eq w.drew (.cells (c0.toArray ++ c.toArray ++ rest) et)
 rw [hws] at hb
 refine ⟨{ (g.put w.heap.size 0 (c0 ++ c)) with ρ := g.ρ ++ [p] }, ?_, hr2.add p .tail ?_ ?_, ?_⟩
 ·refine RV.of_leaf rfl ?_
  have hle : g.le { (g.put w.heap.size 0 (c0 ++ c)) with ρ := g.ρ ++ [p] } := hev2.le.trans (Gh.le_push _ _)
  simp only [RC]
  refine ⟨some ⟨w.heap.size, 0, none⟩, newCap, by simp, by simpa using hnc, .inr ⟨p, ⟨w.heap.size, 0, none⟩, ?_, rfl, rfl, rfl, rfl, ?_, ?_⟩, c0 ++ c, hcat.mono hle, (fun h => by cases h), ?_⟩
  ·show (g.ρ ++ [p])[H.length]? = some p
   rw [← hr.len]; simp
  ·simp [p]
  ·simp [p]
  ·rintro ad h
   cases h
   exact ⟨fun _ => rfl, (Gh.put_holds (g := g) (b := w.heap.size) (lo := 0) (cs := c0 ++ c)).mono (Gh.le_push _ _)⟩
 ·refine .inr ⟨_, et, hb, hcs, fun i hi => ?_⟩
  have hi' : (xs.length + ys.length) * e ≤ i := hi
  show (g.put w.heap.size 0 (c0 ++ c)).I w.heap.size i = none
  simp only [Gh.put]
  rw [if_neg (by omega)]
  exact hr.fresh (Nat.le_refl _) i
 ·intro _ o q ob' h1 h2 h3 h4
  have hq : g.ρ[o]? = some q := h1
  have := (hr.obj o q ob' hq h2).inb h3
  have h4' : q.block = w.heap.size := h4
  omega
 ·have hev1 : Ev g H w g H w.drew := Ev.drew rfl rfl rfl rfl (by show w.drawn ≤ w.drawn + 1; omega)
  have h12 := hev1.trans hev2
  refine ⟨h12.le.trans (Gh.le_push _ _), h12.os, h12.tape, h12.output, h12.size, h12.drawn, h12.keep, h12.imm, fun b hb' => ?_⟩
  rcases Lv.push (g := g.put w.heap.size 0 (c0 ++ c)) hr.len hb' with hl | hl
  ·exact h12.live b hl
  ·have : w.heap.size = b := hl
   exact .inr (by omega)

/-- Append to a view whose room behind it is told. -/
theorem OpS.append {st xt et : TypeId} {x y : Operand} {e by_ : Nat} {eag : Bool} {z : V} {xs ys : List V} {o : Nat} {vy : V} (hst : sliOf P st = some (et, e, eag, by_))
  (hxt : NoI P xt) (hz : ZeroV P et z) (hze : flen z = e) (hby : 0 < by_) (hx : E x = .sl e (.tok o) xs) (ho : H[o]? = some .tail) (hy : E y = vy) (hrd : Rd vy H e ys)
  (hroom : (xs.length + ys.length) * by_ ≤ 2 ^ 47) :
  OpS P ⟨dst, .call ⟨.builtin .append, #[x, y], #[st, xt]⟩, ty, pos, aft, gd⟩ E H (.sl e (.tok H.length) (xs ++ ys)) (H.set o .dead ++ [.tail]) := by
 intro g rc w h hr
 obtain ⟨base, sCap, ex, hlen, htk, c0, hc0, hnone, hsome⟩ := (hx ▸ h x (by simp [Op.operands, Call.operands])).sl_eq
 obtain ⟨c, hc, hrx⟩ := hrd g w _ (hy ▸ h y (by simp [Op.operands, Call.operands])) hr
 rw [run_append_exec ex rfl]
 have hol : o < H.length := (List.getElem?_eq_some_iff.1 ho).1
 have hlk : (H.set o AObj.dead).length = H.length := by simp
 rcases Nat.lt_or_ge sCap (xs.length + ys.length) with hgrow | hfit
 ·-- a new block
  have hrk := hr.kill o
  obtain ⟨val, hv1, hv2, _⟩ := hz.run w.drew g
  obtain ⟨newCap, hnc, hrun⟩ := run_append_new (P := P) (ty := ty) (w := w) (sCap := sCap) hst hxt hgrow hby hroom hv1 hrx rfl hc0
   (fun e => List.eq_nil_of_length_eq_zero (by have := hnone e; omega)) (fun ad e => ⟨(hsome ad e).1, fun i y hy => hr.agree _ _ _ ((hsome ad e).2 i y hy)⟩)
  rw [hrun]
  simp only [Result.andThen_ok]
  have hzs : val.cells.size = e := by rw [← hze, ← hv2.len]; simp
  obtain ⟨g', h1, h2, h3⟩ := append_new_tok hrk (et := et) hzs hc0 hc hnc
  exact ⟨g', by simpa [hlk] using h1, h2, (Ev.kill o).trans h3⟩
 ·rw [run_append_in (P := P) (ty := ty) (w := w) (sCap := sCap) hst hxt hfit (hrx P w rfl)]
  rcases htk with hcap | ⟨p, ad, hp, hpv, hba, hsp, hbl, hfr, hsz⟩
  ·-- nothing is appended
   have hys : ys = [] := List.eq_nil_of_length_eq_zero (by omega)
   subst hys
   simp only [RCu] at hc
   subst hc
   have hnop : (putIn base (xs.length * e) []).run P w = .ok () w := by cases base <;> rfl
   rw [hnop]
   simp only [Result.andThen_ok]
   have hrk := hr.kill o
   refine ⟨_, ?_, hrk.vacant, (Ev.kill o).trans (.vacant hrk)⟩
   refine RV.of_leaf rfl ?_
   simp only [RC, List.append_nil]
   exact ⟨base, sCap, by simp, hlen, .inl hcap, c0, hc0.mono (g.le_push _), hnone, fun ad e => ⟨fun hn => (hsome ad e).1 hn, (hsome ad e).2.mono (g.le_push _)⟩⟩
  ·-- in place
   subst hba
   obtain ⟨_, hh0⟩ := hsome ad rfl
   have hsp' := hsp
   have hob : ∃ cs cty, w.heap[p.block]? = some (.cells cs cty (0, 0)) ∧ cs.size = p.size := by
    rcases hr.obj o p _ hp ho with hx | ⟨cs, cty, h1, h2, _⟩
    ·rw [hpv] at hx; cases hx
    ·exact ⟨cs, cty, h1, h2⟩
   obtain ⟨cs, cty, hcs, hcsz⟩ := hob
   have hlc : c.length = ys.length * e := hc.len
   have hmul : (xs.length + ys.length) * e ≤ sCap * e := Nat.mul_le_mul_right _ hfit
   rw [Nat.add_mul] at hmul
   have hst' := run_storeCells_at P p.block p.front cty c 0 cs w hcs (by omega) (fun v hv => hc.one v hv)
   have hadd : ad.add (xs.length * e) = ⟨p.block, p.front, none⟩ := by rw [add_addr' hsp', hbl, hfr]
   simp only [putIn, hadd, hst', Result.andThen_ok]
   refine ⟨_, ?_, hr.extend (new := c) hp ho hpv hcs (by omega) rfl, Ev.extend hr hp ho hpv rfl⟩
   have hle : g.le { (g.put p.block p.front c) with ρ := g.ρ ++ [⟨p.block, p.front + c.length, p.size, false⟩] } := (Ev.extend (w' := w.setRow p.block cs) hr hp ho hpv (new := c) rfl).le
   refine RV.of_leaf rfl ?_
   simp only [RC]
   refine ⟨some ad, sCap, by simp, by simpa using hfit, .inr ⟨⟨p.block, p.front + c.length, p.size, false⟩, ad, ?_, rfl, rfl, hsp', hbl, ?_, hsz⟩, c0 ++ c, (hc0.append hc).mono hle, (fun h => by cases h), ?_⟩
   ·show (g.ρ ++ [_])[H.length]? = some _
    rw [← hr.len]; simp
   ·simp only [List.length_append, Nat.add_mul]
    omega
   ·rintro ad' h'
    cases h'
    refine ⟨fun _ => hsp', fun i x hx => ?_⟩
    rcases Nat.lt_or_ge i c0.length with hi | hi
    ·rw [List.getElem?_append_left hi] at hx
     exact hle.imm _ _ _ (hh0 i x hx)
    ·rw [List.getElem?_append_right hi] at hx
     have hc0l : c0.length = xs.length * e := hc0.len
     have := (Gh.put_holds (g := g) (b := p.block) (lo := p.front) (cs := c)) (i - c0.length) x hx
     show (g.put p.block p.front c).I ad.block (ad.off + i) = some x
     rw [hbl, show ad.off + i = p.front + (i - c0.length) from by omega]
     exact this

/-- Append to a view with no room behind it: the new room behind it is told. -/
theorem OpS.appendX {st : TypeId} {e : Nat} {z : V} {xs : List V} (hst : sliOf P st = some (et, e, eag, by_))
  (hxt : NoI P xt) (hz : ZeroV P et z) (hze : flen z = e) (hby : 0 < by_) (hx : E x = vx) (hxs : vx.sub (.sl e .exact xs)) (hy : E y = vy) (hrd : Rd vy H e ys)
  (hroom : (xs.length + ys.length) * by_ ≤ 2 ^ 47) :
  OpS P ⟨dst, .call ⟨.builtin .append, #[x, y], #[st, xt]⟩, ty, pos, aft, gd⟩ E H (.sl e (.tok H.length) (xs ++ ys)) (H ++ [.tail]) := by
 intro g rc w h hr
 obtain ⟨base, sCap, ex, hlen, htk, c0, hc0, hnone, hsome⟩ := (hxs g _ (hx ▸ h x (by simp [Op.operands, Call.operands]))).sl_eq
 obtain ⟨c, hc, hrx⟩ := hrd g w _ (hy ▸ h y (by simp [Op.operands, Call.operands])) hr
 rw [run_append_exec ex rfl]
 simp only [Tk.ok] at htk
 rcases Nat.lt_or_ge sCap (xs.length + ys.length) with hgrow | hfit
 ·obtain ⟨val, hv1, hv2, _⟩ := hz.run w.drew g
  obtain ⟨newCap, hnc, hrun⟩ := run_append_new (P := P) (ty := ty) (w := w) (sCap := sCap) hst hxt hgrow hby hroom hv1 hrx rfl hc0
   (fun e => List.eq_nil_of_length_eq_zero (by have := hnone e; omega)) (fun ad e => ⟨(hsome ad e).1, fun i y hy => hr.agree _ _ _ ((hsome ad e).2 i y hy)⟩)
  rw [hrun]
  simp only [Result.andThen_ok]
  have hzs : val.cells.size = e := by rw [← hze, ← hv2.len]; simp
  obtain ⟨g', h1, h2, h3⟩ := append_new_tok hr (et := et) hzs hc0 hc hnc
  exact ⟨g', h1, h2, h3⟩
 ·rw [run_append_in (P := P) (ty := ty) (w := w) (sCap := sCap) hst hxt hfit (hrx P w rfl)]
  have hys : ys = [] := List.eq_nil_of_length_eq_zero (by omega)
  subst hys
  simp only [RCu] at hc
  subst hc
  have hnop : (putIn base (xs.length * e) []).run P w = .ok () w := by cases base <;> rfl
  rw [hnop]
  simp only [Result.andThen_ok]
  refine ⟨_, ?_, hr.vacant, .vacant hr⟩
  refine RV.of_leaf rfl ?_
  simp only [RC, List.append_nil]
  exact ⟨base, sCap, by simp, hlen, .inl htk, c0, hc0.mono (g.le_push _), hnone, fun ad e => ⟨fun hn => (hsome ad e).1 hn, (hsome ad e).2.mono (g.le_push _)⟩⟩

end

end
section
variable {g : Gh} {v : V}

theorem splice (off : Nat) : ∀ (c : List Value) (k : Nat) (arr : Array Value), off + k + c.length ≤ arr.size →
  ((c.zipIdx k).foldl (fun (cs : Array Value) (p : Value × Nat) => match p with | (x, j) => cs.setIfInBounds (off + j) x) arr).toList = arr.toList.take (off + k) ++ c ++ arr.toList.drop (off + k + c.length)
 | [], k, arr, _ => by simp
 | x :: c, k, arr, h => by
  simp only [List.zipIdx_cons, List.foldl_cons]
  rw [splice off c (k + 1) (arr.setIfInBounds (off + k) x) (by simp at h ⊢; omega)]
  have e := list_seg_step arr.toList (off + k) x c (by simp at h ⊢; omega)
  simpa [Array.toList_setIfInBounds, Nat.add_assoc] using e

theorem fill_one (place : Nat → Option (Nat × Nat)) (cells : Array Value) (i off size : Nat) (v : Value) (rest : List (Nat × Value)) (hp : place i = some (off, size)) (hv : v.cells.size = size) (hf : off + size ≤ cells.size) :
  ∃ cells', cells'.toList = cells.toList.take off ++ v.cells.toList ++ cells.toList.drop (off + size) ∧ Instr.fill place cells ((i, v) :: rest) = Instr.fill place cells' rest := by
 refine ⟨(v.cells.zipIdx.foldl (fun cs (c, j) => cs.setIfInBounds (off + j) c) cells), ?_, ?_⟩
 ·have := splice off v.cells.toList 0 cells (by simp; omega)
  rw [← Array.foldl_toList, Array.toList_zipIdx]
  rw [this]
  simp [hv]
 ·simp only [Instr.fill, hp, hv]
  rw [if_neg (by simp; omega)]

/-- Parts put into a whole, one after the other. -/
def setParts : V → List (Nat × V) → V
 | cur, [] => cur
 | cur, (i, u) :: r => setParts (cur.setAt [i] u) r

def fillOK (place : Nat → Option (Nat × Nat)) : V → List (Nat × V) → Prop
 | _, [] => True
 | cur, (i, u) :: r => okV u = true ∧ (∃ off n old, place i = some (off, n) ∧ cur.at [i] = some old ∧ cur.offOf [i] 0 = off ∧ flen old = n ∧ flen u = n) ∧ fillOK place (cur.setAt [i] u) r

theorem fill_rc {g : Gh} {place : Nat → Option (Nat × Nat)} : ∀ {vs : List (Nat × V)} {xs : List (Nat × Value)} {cur : V} {cells : Array Value}, RC g cur cells.toList → fillOK place cur vs →
  (vs.length = xs.length ∧ ∀ (k : Nat) i u, vs[k]? = some (i, u) → ∃ x, xs[k]? = some (i, x) ∧ RV g u x) →
  ∃ cells', Instr.fill place cells xs = some cells' ∧ RC g (setParts cur vs) cells'.toList
 | [], [], cur, cells, h, _, _ => ⟨cells, rfl, h⟩
 | [], _ :: _, _, _, _, _, h => by simp at h
 | (i, u) :: vs, xs, cur, cells, h, hok, hxs => by
  obtain ⟨hk, ⟨off, n, old, h1, h2, h3, h4, h5⟩, hrest⟩ := hok
  obtain ⟨hlen, hget⟩ := hxs
  cases xs with
  | nil => simp at hlen
  | cons x0 xs =>
   obtain ⟨x, hx, hv⟩ := hget 0 i u rfl
   simp at hx; subst hx
   obtain ⟨_, hc⟩ := hv.ok hk
   obtain ⟨pre, c, post, e1, e2, e3, e4⟩ := h.at (acc := 0) h2
   have hxl : x.cells.size = n := by rw [← h5, ← hc.len]; simp
   have hcl : c.length = n := e3.len.trans h4
   have htot : cells.size = pre.length + c.length + post.length := by
    have := congrArg List.length e1
    simpa [Nat.add_assoc] using this
   obtain ⟨cells', q1, q2⟩ := fill_one place cells i off n x xs h1 hxl (by omega)
   have hpre : pre.length = off := by omega
   have hrow : cells'.toList = pre ++ x.cells.toList ++ post := by
    rw [q1, e1]
    have d1 : (pre ++ c ++ post).take off = pre := by rw [← hpre, List.append_assoc, List.take_left]
    have d2 : (pre ++ c ++ post).drop (off + n) = post := by rw [show off + n = (pre ++ c).length from by rw [List.length_append]; omega, List.drop_left]
    rw [d1, d2]
   have hcells' : RC g (cur.setAt [i] u) cells'.toList := by
    rw [hrow]
    exact e4 u _ hc (by simp; omega)
   obtain ⟨cells'', r1, r2⟩ := fill_rc hcells' hrest ⟨by simpa using hlen, fun k j v hkv => hget (k + 1) j v (by simpa using hkv)⟩
   exact ⟨cells'', by rw [q2, r1], r2⟩

section
variable {P : Program} {E : Operand → V} {H : List AObj} {dst : Option Tmp} {ty : TypeId} {pos : String} {aft : Array Edge} {gd : Option (Nat × Bool)}

theorem run_mapM_array {α β : Type} (f : α → Sem β) (h : α → β) (w : World) : ∀ (l : List α), (∀ x ∈ l, (f x).run P w = .ok (h x) w) → (l.mapM f).run P w = .ok (l.map h) w
 | [], _ => by simp
 | x :: l, hl => by
  rw [List.mapM_cons, Sem.run_bind, hl x (by simp)]
  simp only [Result.andThen_ok, Sem.run_bind, run_mapM_array f h w l fun y hy => hl y (by simp [hy]), Sem.run_pure, List.map_cons]

def placeSt (l : List (Nat × Nat × Bool)) (i : Nat) : Option (Nat × Nat) := (l[i]?).map fun x => (x.1, x.2.1)

theorem mapM_len {α β : Type} {f : α → Option β} : ∀ {l : List α} {l' : List β}, l.mapM f = some l' → l'.length = l.length
 | [], l', h => by simp at h; subst h; rfl
 | a :: l, l', h => by
  rw [List.mapM_cons] at h
  cases ha : f a with
  | none => simp [ha] at h
  | some b =>
   cases hl : l.mapM f with
   | none => simp [ha, hl] at h
   | some r =>
    simp [ha, hl] at h
    subst h
    simp [mapM_len hl]

theorem partsRel {rc : Operand → Value} (h : ∀ x ∈ (parts.toList.map (·.2)), RV g (E x) (rc x)) :
  (parts.toList.map fun p => (p.1, E p.2)).length = (parts.map fun (i, x) => (i, rc x)).toList.length ∧
   ∀ (k : Nat) i u, (parts.toList.map fun p => (p.1, E p.2))[k]? = some (i, u) → ∃ x, (parts.map fun (i, x) => (i, rc x)).toList[k]? = some (i, x) ∧ RV g u x := by
 refine ⟨by simp, fun k i u hk => ?_⟩
 rw [List.getElem?_map] at hk
 cases hp : parts.toList[k]? with
 | none => simp [hp] at hk
 | some p =>
  simp only [hp, Option.map_some, Option.some.injEq, Prod.mk.injEq] at hk
  obtain ⟨rfl, rfl⟩ := hk
  refine ⟨rc p.2, ?_, h p.2 (List.mem_map_of_mem (List.mem_of_getElem? hp))⟩
  have hp' : parts[k]? = some p := by simpa using hp
  simp [hp']

theorem OpS.buildSt {t : TypeId} {l : List (Nat × Nat × Bool)} {z : V} (hl : layOf P t = some l) (hz : ZeroV P t z)
  (hok : fillOK (placeSt l) z (parts.toList.map fun p => (p.1, E p.2))) (hv : setParts z (parts.toList.map fun p => (p.1, E p.2)) = v) (ha : v.isAgg = true) : OpS P ⟨dst, .build t parts, ty, pos, aft, gd⟩ E H v H :=
 .quiet fun g rc w h _ => by
  obtain ⟨val, h1, h2, h3⟩ := hz.run w g
  obtain ⟨cells', e1, e2⟩ := fill_rc h2 hok (partsRel (rc := rc) fun x hx => h x (by simpa [Op.operands] using hx))
  refine ⟨.agg cells', ?_, by rw [← hv] at ha ⊢; exact RC.agg ha e2⟩
  have hu : ∃ fs, P.underlying t = some (.struct fs) ∧ fs.toList.mapM (fun f => match szOf P f.type, aggOf P f.type with | some n, some b => some (f.offset, n, b) | _, _ => none) = some l := by
   unfold layOf at hl
   split at hl
   ·rename_i fs hfs; exact ⟨fs, hfs, hl⟩
   ·cases hl
  obtain ⟨fs, hfs, hlay⟩ := hu
  have hplaces : (fs.mapM (fun f => (do pure (f.offset, ← sizeOf f.type) : Sem (Nat × Nat)))).run P w = .ok (l.map fun x => (x.1, x.2.1)).toArray w := by
   rw [Array.mapM_eq_mapM_toList, Sem.run_map]
   have : (fs.toList.mapM (fun f => (do pure (f.offset, ← sizeOf f.type) : Sem (Nat × Nat)))).run P w = .ok (fs.toList.map fun f => (f.offset, (szOf P f.type).getD 0)) w := by
    refine run_mapM_array _ _ w _ fun f hf => ?_
    obtain ⟨k, hk, hfk⟩ := List.mem_iff_getElem.1 hf
    have hkl : k < l.length := by rw [mapM_len hlay]; exact hk
    obtain ⟨f', hf', hy⟩ := mapM_get hlay (List.getElem?_eq_getElem hkl)
    rw [List.getElem?_eq_getElem hk, hfk] at hf'
    cases hf'
    split at hy
    ·rename_i n b hn hb
     simp only [Sem.run_bind, run_sizeOf' hn, Result.andThen_ok, Sem.run_pure, hn, Option.getD_some]
    ·cases hy
   rw [this]
   simp only [Result.andThen_ok]
   congr 2
   apply List.ext_getElem?
   intro k
   simp only [List.getElem?_map]
   by_cases hkl : k < l.length
   ·obtain ⟨f', hf', hy⟩ := mapM_get hlay (List.getElem?_eq_getElem hkl)
    rw [hf', List.getElem?_eq_getElem hkl]
    split at hy
    ·rename_i n b hn hb
     simp only [Option.some.injEq] at hy
     simp [← hy, hn]
    ·cases hy
   ·rw [List.getElem?_eq_none (Nat.le_of_not_lt hkl), List.getElem?_eq_none (by rw [← mapM_len hlay]; exact Nat.le_of_not_lt hkl)]
    rfl
  have hplace : (fun i => (l.map fun x => (x.1, x.2.1)).toArray[i]?) = placeSt l := by
   funext i
   simp [placeSt]
  simp only [execOp, Instr.build, Sem.run_bind, h1, Result.andThen_ok, run_underlying hfs, hplaces, hplace, e1, Sem.run_pure]

theorem OpS.buildArr {t : TypeId} {len e : Nat} {b : Bool} {z : V} (hl : arrOf P t = some (len, e, b)) (hz : ZeroV P t z)
  (hok : fillOK (fun i => some (i * e, e)) z (parts.toList.map fun p => (p.1, E p.2))) (hv : setParts z (parts.toList.map fun p => (p.1, E p.2)) = v) (ha : v.isAgg = true) : OpS P ⟨dst, .build t parts, ty, pos, aft, gd⟩ E H v H :=
 .quiet fun g rc w h _ => by
  obtain ⟨val, h1, h2, h3⟩ := hz.run w g
  obtain ⟨et, hut, hsz, hag⟩ := arrOf_get hl
  obtain ⟨cells', e1, e2⟩ := fill_rc h2 hok (partsRel (rc := rc) fun x hx => h x (by simpa [Op.operands] using hx))
  refine ⟨.agg cells', ?_, by rw [← hv] at ha ⊢; exact RC.agg ha e2⟩
  simp only [execOp, Instr.build, Sem.run_bind, h1, Result.andThen_ok, run_underlying hut, run_sizeOf' hsz, e1, Sem.run_pure]

/-- Values told one after the other. -/
def seqParts : Nat → List V → List (Nat × V)
 | _, [] => []
 | k, v :: vs => (k, v) :: seqParts (k + 1) vs

theorem fill_seq {g : Gh} {e : Nat} : ∀ {vs : List V} {xs : List (Nat × Value)} {k : Nat} {cells : Array Value} {done junk : List Value}, cells.toList = done ++ junk → done.length = k * e → junk.length = vs.length * e →
  (∀ v ∈ vs, okV v = true ∧ flen v = e) →
  ((seqParts k vs).length = xs.length ∧ ∀ (j : Nat) i u, (seqParts k vs)[j]? = some (i, u) → ∃ x, xs[j]? = some (i, x) ∧ RV g u x) →
  ∃ cells' c, Instr.fill (fun i => some (i * e, e)) cells xs = some cells' ∧ cells'.toList = done ++ c ∧ RCu g e vs c
 | [], [], k, cells, done, junk, h, _, hj, _, _ => ⟨cells, [], rfl, by simp at hj; subst hj; simpa using h, by simp [RCu]⟩
 | [], _ :: _, _, _, _, _, _, _, _, _, h => by simp [seqParts] at h
 | v :: vs, xs, k, cells, done, junk, h, hd, hj, hok, hxs => by
  obtain ⟨hlen, hget⟩ := hxs
  cases xs with
  | nil => simp [seqParts] at hlen
  | cons x0 xs =>
   obtain ⟨x, hx, hv⟩ := hget 0 k v rfl
   simp at hx; subst hx
   obtain ⟨hkv, hfl⟩ := hok v (by simp)
   obtain ⟨_, hc⟩ := hv.ok hkv
   have hxl : x.cells.size = e := by rw [← hfl, ← hc.len]; simp
   have hsz : cells.size = done.length + junk.length := by
    have := congrArg List.length h
    simpa using this
   have hjl : junk.length = e + vs.length * e := by rw [hj]; simp [Nat.succ_mul, Nat.add_comm]
   obtain ⟨cells', q1, q2⟩ := fill_one (fun i => some (i * e, e)) cells k (k * e) e x xs rfl hxl (by omega)
   have hrow : cells'.toList = (done ++ x.cells.toList) ++ junk.drop e := by
    rw [q1, h, ← hd, List.take_left, List.drop_append]
    rw [List.drop_eq_nil_of_le (by omega), List.nil_append, show done.length + e - done.length = e from by omega]
   obtain ⟨cells'', c, r1, r2, r3⟩ := fill_seq (vs := vs) (k := k + 1) hrow (by simp [hd, hxl, Nat.succ_mul]) (by simp [hjl]) (fun u hu => hok u (by simp [hu]))
    ⟨by simpa [seqParts] using hlen, fun j i u hj => hget (j + 1) i u (by simpa [seqParts] using hj)⟩
   refine ⟨cells'', x.cells.toList ++ c, by rw [q2, r1], by rw [r2]; simp, ?_⟩
   simp only [RCu]
   exact ⟨_, c, rfl, by simpa using hxl, hc, r3⟩

theorem OpS.buildSlice {t et : TypeId} {len : Nat} {parts : Array (Nat × Operand)} {e by_ : Nat} {b : Bool} {z : V} {vs : List V} (hl : sliOf P t = some (et, e, b, by_)) (hz : ZeroV P et z) (hze : flen z = e) (hlen : vs.length = len) (hsm : len * e ≤ 2 ^ 24)
  (hp : (parts.toList.map fun p => (p.1, E p.2)) = seqParts 0 vs) (hok : ∀ v ∈ vs, okV v = true ∧ flen v = e) : OpS P ⟨dst, .buildSlice t len parts, ty, pos, aft, gd⟩ E H (.sl e .exact vs) H := by
 intro g rc w h hr
 obtain ⟨hut, hsz, _, _⟩ := sliOf_get hl
 obtain ⟨val, h1, h2, h3⟩ := hz.run w g
 have hvs : val.cells.size = e := by rw [← hze, ← h2.len]; simp
 have hpr := partsRel (E := E) (rc := rc) (parts := parts) (g := g) fun x hx => h x (by simpa [Op.operands] using hx)
 rw [hp] at hpr
 have key : ∀ zz : Array Value, ∃ cells' c, Instr.fill (fun i => some (i * e, e)) ((Array.range (len * e)).map (zz[· % zz.size]!)) (parts.map fun (i, x) => (i, rc x)).toList = some cells' ∧ cells'.toList = c ∧ RCu g e vs c := by
  intro zz
  obtain ⟨cells', c, q1, q2, q3⟩ := fill_seq (g := g) (e := e) (vs := vs) (k := 0) (done := []) (junk := ((Array.range (len * e)).map (zz[· % zz.size]!)).toList) (cells := (Array.range (len * e)).map (zz[· % zz.size]!)) (by simp) (by simp) (by simp [hlen]) hok hpr
  exact ⟨cells', c, q1, by simpa using q2, q3⟩
 have hrun : ∃ (cells' : Array Value) (c : List Value), cells'.toList = c ∧ RCu g e vs c ∧ (execOp rc ⟨dst, .buildSlice t len parts, ty, pos, aft, gd⟩).run P w = .ok (.value (.slice (some ⟨w.heap.size, 0, none⟩) len len)) (w.alloc (.cells cells' et)) := by
  by_cases h0 : len * e = 0
  ·obtain ⟨cells', c, q1, q2, q3⟩ := key #[]
   refine ⟨cells', c, q2, q3, ?_⟩
   simp only [execOp, Instr.buildSlice, Sem.run_bind, run_underlying hut, Result.andThen_ok, run_sizeOf' hsz]
   rw [if_neg (by omega), if_pos h0]
   simp only [Sem.run_bind, Sem.run_pure, Result.andThen_ok]
   rw [q1]
   simp [newRow]
  ·obtain ⟨cells', c, q1, q2, q3⟩ := key val.cells
   refine ⟨cells', c, q2, q3, ?_⟩
   simp only [execOp, Instr.buildSlice, Sem.run_bind, run_underlying hut, Result.andThen_ok, run_sizeOf' hsz]
   rw [if_neg (by omega), if_neg h0]
   simp only [Sem.run_bind, Sem.run_pure, Result.andThen_ok, h1]
   rw [q1]
   simp [newRow]
 obtain ⟨cells', c, q1, q2, hrun⟩ := hrun
 rw [hrun]
 have hr2 := hr.lay cells' et c [] (by simp [q1])
 have hev2 := Ev.lay hr (.cells cells' et) c
 refine ⟨_, ?_, hr2, hev2⟩
 refine RV.of_leaf rfl ?_
 simp only [RC]
 exact ⟨some ⟨w.heap.size, 0, none⟩, len, by rw [hlen], by omega, hlen.symm, c, q2.mono hev2.le, (fun h => by cases h), fun ad h => by cases h; exact ⟨fun _ => rfl, Gh.put_holds⟩⟩

theorem OpS.len {t et : TypeId} {x : Operand} {vx : V} {e e' by_ : Nat} {b : Bool} {ys : List V} (hl : sliOf P t = some (et, e, b, by_)) (hx : E x = vx) (hrd : vx.sub (.sl e' .no ys)) :
  OpS P ⟨dst, .call ⟨.builtin .len, #[x], #[t]⟩, ty, pos, aft, gd⟩ E H (.int .i64 ys.length) H :=
 .quiet fun g rc w h hr => by
  obtain ⟨hut, _⟩ := sliOf_get hl
  obtain ⟨a, cap, ex, _⟩ := (hrd g _ (hx ▸ h x (by simp [Op.operands, Call.operands]))).sl_eq
  exact ⟨.int .i64 ys.length, by simp [execOp, resolve, invoke, Go.builtin, Builtin.len_, run_underlying hut, ex, goInt], RV.int g _ _⟩

theorem OpS.lenO {t : TypeId} {e e' : Nat} {b : Bool} {off len : Nat} (hl : sliOf P t = some (et, e, b, by_)) (hx : E x = .slo e' o path off lo len cap) :
  OpS P ⟨dst, .call ⟨.builtin .len, #[x], #[t]⟩, ty, pos, aft, gd⟩ E H (.int .i64 len) H :=
 .quiet fun g rc w h hr => by
  obtain ⟨hut, _⟩ := sliOf_get hl
  obtain ⟨p, _, a, c, ex, _⟩ := (hx ▸ h x (by simp [Op.operands, Call.operands])).slo_eq
  exact ⟨.int .i64 len, by simp [execOp, resolve, invoke, Go.builtin, Builtin.len_, run_underlying hut, ex, goInt], RV.int g _ _⟩

theorem OpS.lenS {t : TypeId} {s : ByteArray} (hl : P.underlying t = some .string) (hx : E x = .str s) :
  OpS P ⟨dst, .call ⟨.builtin .len, #[x], #[t]⟩, ty, pos, aft, gd⟩ E H (.int .i64 s.size) H :=
 .quiet fun g rc w h hr => by
  have ex := (hx ▸ h x (by simp [Op.operands, Call.operands])).str_eq
  exact ⟨.int .i64 s.size, by simp [execOp, resolve, invoke, Go.builtin, Builtin.len_, run_underlying hl, ex, goInt], RV.int g _ _⟩

theorem OpS.bmax {a b : Int} (hx : E x = .int k a) (hy : E y = .int k b) : OpS P ⟨dst, .call ⟨.builtin .max, #[x, y], ats⟩, ty, pos, aft, gd⟩ E H (.int k (max a b)) H :=
 .quiet fun g rc w h hr => by
  have ex := (hx ▸ h x (by simp [Op.operands, Call.operands])).int_eq
  have ey := (hy ▸ h y (by simp [Op.operands, Call.operands])).int_eq
  refine ⟨.int k (max a b), ?_, RV.int g _ _⟩
  have : max a b = if b > a then b else a := by by_cases hq : b > a <;> simp [hq] <;> omega
  simp [execOp, resolve, invoke, Go.builtin, Builtin.max_, Builtin.max2, ex, ey, this]

theorem OpS.bmin {a b : Int} (hx : E x = .int k a) (hy : E y = .int k b) : OpS P ⟨dst, .call ⟨.builtin .min, #[x, y], ats⟩, ty, pos, aft, gd⟩ E H (.int k (min a b)) H :=
 .quiet fun g rc w h hr => by
  have ex := (hx ▸ h x (by simp [Op.operands, Call.operands])).int_eq
  have ey := (hy ▸ h y (by simp [Op.operands, Call.operands])).int_eq
  refine ⟨.int k (min a b), ?_, RV.int g _ _⟩
  have : min a b = if b < a then b else a := by by_cases hq : b < a <;> simp [hq] <;> omega
  simp [execOp, resolve, invoke, Go.builtin, Builtin.min_, Builtin.min2, ex, ey, this]

end

/-! What a function hands out. -/

def readRes (tmps : Array Value) : ResultVar → Sem Value
 | .tmp t => pure (tmps.getD t Go.undef)
 | .cell a t => do loadVar t (← asAddr (tmps.getD a Go.undef))

theorem results_eq (fn : Func) (tmps : Array Value) : results fn tmps = (fn.results.mapM (readRes tmps) >>= fun vs => pure (if h : vs.size = 1 then vs[0] else .tuple vs)) := by
 unfold results
 congr 1

inductive ResV (P : Program) (s : St) : ResultVar → V → Prop where
 | tmp {t : Tmp} {v : V} (h : look s.env t = v) (hk : okV v = true) : ResV P s (.tmp t) v
 | cell {a : Tmp} {ty : TypeId} {n : Nat} {b : Bool} {o : Nat} {path : List Nat} {off : Nat} {u v : V} (hs : szOf P ty = some n) (hag : aggOf P ty = some b)
   (hx : look s.env a = .ptr o path off) (ho : s.H[o]? = some (.cells u)) (hu : u.at path = some v) (hoff : u.offOf path 0 = off) (hn : flen v = n) (hb : v.isAgg = b) : ResV P s (.cell a ty) v
 | cellC {a : Tmp} {ty : TypeId} {n : Nat} {b : Bool} {u : V} (hs : szOf P ty = some n) (hag : aggOf P ty = some b) (hx : look s.env a = .cptr u) (hn : flen u = n) (hb : u.isAgg = b) : ResV P s (.cell a ty) u

theorem ResV.run {P : Program} {s : St} {r : ResultVar} {v : V} (h : ResV P s r v) {g : Gh} {n : Nat} {a : Act} {w : World} (ha : RAct g n s.env a) (hr : HR g s.H w) :
  ∃ x, (readRes a.tmps r).run P w = .ok x w ∧ RV g v x ∧ okV v = true := by
 cases h with
 | @tmp t v h hk => exact ⟨_, rfl, h ▸ ha.env t, hk⟩
 | @cell ad ty n' b o path off u v hs hag hx ho hu hoff hn hb =>
  obtain ⟨p, q1, q2⟩ := (hx ▸ ha.env ad).ptr_eq
  obtain ⟨c, hc, hcell⟩ := hr.cells q1 ho hu
  subst hoff
  refine ⟨mkVal b c, ?_, mkVal_rv hb hc, ?_⟩
  ·have := run_loadVar' (P := P) (a := ⟨p.block, u.offOf path 0, none⟩) rfl hs hag (hc.len.trans hn) (fun e => by subst e; rw [← hn, flen_leaf hb]) w hcell
   simp only [readRes, Sem.run_bind, q2, asAddr, Sem.run_pure, Result.andThen_ok, this]
  ·cases v <;> first | rfl | (simp only [RC] at hc)
 | @cellC ad ty n' b u hs hag hx hn hb =>
  obtain ⟨a', c, q1, q2, hc, q4⟩ := (hx ▸ ha.env ad).cptr_eq
  refine ⟨mkVal b c, ?_, mkVal_rv hb hc, ?_⟩
  ·have := run_loadVar' (P := P) (a := a') q1 hs hag (hc.len.trans hn) (fun e => by subst e; rw [← hn, flen_leaf hb]) w (fun i y hy => hr.agree _ _ _ (q4 i y hy))
   simp only [readRes, Sem.run_bind, q2, asAddr, Sem.run_pure, Result.andThen_ok, this]
  ·cases v <;> first | rfl | (simp only [RC] at hc)

inductive ResL (P : Program) (s : St) : List ResultVar → List V → Prop where
 | nil : ResL P s [] []
 | cons {r : ResultVar} {v : V} {rs : List ResultVar} {vs : List V} (h : ResV P s r v) (t : ResL P s rs vs) : ResL P s (r :: rs) (v :: vs)

theorem ResL.run {P : Program} {s : St} {rs : List ResultVar} {vs : List V} (h : ResL P s rs vs) {g : Gh} {n : Nat} {a : Act} {w : World} (ha : RAct g n s.env a) (hr : HR g s.H w) :
  ∃ xs, (rs.mapM (readRes a.tmps)).run P w = .ok xs w ∧ RVl g vs xs := by
 induction h with
 | nil => exact ⟨[], by simp, by simp [RVl]⟩
 | @cons r v rs vs h _ ih =>
  obtain ⟨x, h1, h2, h3⟩ := h.run ha hr
  obtain ⟨xs, h4, h5⟩ := ih
  obtain ⟨q1, q2⟩ := h2.ok h3
  refine ⟨x :: xs, ?_, by simp only [RVl]; exact ⟨x, xs, rfl, q1, q2, h5⟩⟩
  rw [List.mapM_cons, Sem.run_bind, h1]
  simp only [Result.andThen_ok, Sem.run_bind, h4, Sem.run_pure]

theorem ResOK.one {P : Program} {fn : Func} {n : Nat} {s : St} {r : ResultVar} (hr : fn.results = #[r]) (h : ResV P s r v) : ResOK P fn n s v := by
 intro g a w ha hrel
 obtain ⟨x, h1, h2, _⟩ := h.run ha hrel
 refine ⟨x, ?_, h2⟩
 rw [results_eq, Sem.run_bind, hr, Array.mapM_eq_mapM_toList, Sem.run_map]
 have : ([r].mapM (readRes a.tmps)).run P w = .ok [x] w := by
  rw [List.mapM_cons, Sem.run_bind, h1]; simp
 rw [this]
 simp

theorem ResOK.many {P : Program} {fn : Func} {n : Nat} {s : St} {rs : List ResultVar} {vs : List V} (hr : fn.results.toList = rs) (h : ResL P s rs vs) (h1 : vs.length ≠ 1) : ResOK P fn n s (.tup vs) := by
 intro g a w ha hrel
 obtain ⟨xs, h2, h3⟩ := h.run ha hrel
 refine ⟨.tuple xs.toArray, ?_, ⟨xs.toArray, rfl, by simpa using h3⟩⟩
 have hl : xs.length = vs.length := h3.rvs.len
 rw [results_eq, Sem.run_bind, Array.mapM_eq_mapM_toList, Sem.run_map, hr, h2]
 simp only [Result.andThen_ok, Sem.run_pure]
 rw [dif_neg (by simp; omega)]

end
section
variable {H' H2 : List AObj} {v' v2 : V} {args' first us : List V} {env' r : List (Nat × V)}

theorem lk {env : List (Nat × V)} {t : Nat} {v : V} {e : List (Nat × V)} (k : Nat) (h : env.drop k = (t, v) :: e) (hn : (env.take k).all (fun p => !Nat.beq t p.1) = true) : look env t = v := by
 induction k generalizing env with
 | zero => simp at h; subst h; rw [look_cons]; simp
 | succ k ih =>
  cases env with
  | nil => simp at h
  | cons p env =>
   obtain ⟨t', u⟩ := p
   simp only [List.take_succ_cons, List.all_cons, Bool.and_eq_true, Bool.not_eq_true'] at hn
   rw [look_cons, if_neg (fun e => by subst e; simp at hn)]
   exact ih (by simpa using h) hn.2

theorem wrap_id {a : Int} (h : -9223372036854775808 ≤ a) (h2 : a ≤ 9223372036854775807) : IntKind.i64.wrap a = a := by
 have e : IntKind.i64.wrap a = if a % 18446744073709551616 ≥ 9223372036854775808 then a % 18446744073709551616 - 18446744073709551616 else a % 18446744073709551616 := by
  simp [IntKind.wrap, IntKind.bits, IntKind.signed]
 rw [e]
 split <;> omega

theorem ltL_map {α : Type} {f : α → V} {m : Nat} (h : ∀ x, (f x).lt m = true) : ∀ (l : List α), V.ltL m (l.map f) = true
 | [] => rfl
 | x :: l => by simp [V.ltL, h x, ltL_map h l]

@[simp] theorem ltL_ints {m : Nat} {k : IntKind} (l : List Int) : V.ltL m (l.map (V.int k)) = true := ltL_map (fun _ => rfl) l
@[simp] theorem lt_int {m : Nat} {k : IntKind} {n : Int} : (V.int k n).lt m = true := rfl
@[simp] theorem lt_bool {m : Nat} {b : Bool} : (V.bool b).lt m = true := rfl
@[simp] theorem lt_str {m : Nat} {b : ByteArray} : (V.str b).lt m = true := rfl

theorem cI {env : List (Nat × V)} {n : Int} : ev env (.const (.int k n)) = .int k n := rfl
theorem cB {env : List (Nat × V)} {b : Bool} : ev env (.const (.bool b)) = .bool b := rfl
theorem cF {env : List (Nat × V)} {f : FuncId} : ev env (.func f) = .fn f [] [] := rfl
theorem cNs {env : List (Nat × V)} : ev env (.const (.slice none 0 0)) = .nils := rfl
theorem cNf {env : List (Nat × V)} : ev env (.const .nilFunc) = .nilfn := rfl
theorem cNi {env : List (Nat × V)} : ev env (.const .nilIface) = .nili := rfl

/-- The steps that are left of a region, and what is to hold behind them. -/
def Run (F : List AObj → Prop) (draw : Bool) (P : Program) (ops : Array Oper) (n : Nat) (ord : List Nat) (l : List Nat) (acc : List Kd) (Q : AEx → St → Prop) (s : St) : Prop :=
 F s.H → ∃ s' ks, Steps P ops n F l s ks s' ∧ (draw = false ∨ dOK ops ord (acc.reverse ++ ks) = true) ∧ Q .normal s'

section
variable {F : List AObj → Prop} {draw : Bool} {P : Program} {ops : Array Oper} {n i : Nat} {ord l : List Nat} {acc : List Kd} {Q : AEx → St → Prop} {s : St} {o : Oper} {v : V} {E : List (Nat × V)} {H : List AObj}

theorem Run.cons {k : Kd} {s₁ : St} (ho : ops[i]? = some o) (h : Stp P ops n o F s k v s₁) (hF : F s.H → F s₁.H) (t : Run F draw P ops n ord l (k :: acc) Q s₁) : Run F draw P ops n ord (i :: l) acc Q s := by
 intro hF0
 obtain ⟨s', ks, h1, h2, h3⟩ := t (hF hF0)
 exact ⟨s', k :: ks, .cons ho hF0 h h1, by simpa using h2, h3⟩

theorem S.nil (h : Q .normal s) : Run F false P ops n ord [] acc Q s := fun hF => ⟨s, [], .nil s hF, .inl rfl, h⟩
theorem S.nilD (hd : dOK ops ord acc.reverse = true) (h : Q .normal s) : Run F true P ops n ord [] acc Q s := fun hF => ⟨s, [], .nil s hF, .inr (by simpa using hd), h⟩
/-- A destination, by its number. -/
def dstIs (n d : Nat) (o : Oper) : Bool := match o.dst, o.guard with | some e, none => e == d && decide (d < n) | _, _ => false
def dstNo (o : Oper) : Bool := match o.dst, o.guard with | none, none => true | _, _ => false
def dstG (n d j : Nat) (want : Bool) (o : Oper) : Bool := match o.dst, o.guard with | some e, some (k, w) => e == d && decide (d < n) && k == j && w == want | _, _ => false
theorem dstIs_get (h : dstIs n d o = true) : o.dst = some d ∧ o.guard = none ∧ okDst n o.dst = true := by
 unfold dstIs at h
 split at h
 ·rename_i h1 h2
  simp only [Bool.and_eq_true, beq_iff_eq, decide_eq_true_eq] at h
  obtain ⟨rfl, hd⟩ := h
  exact ⟨h1, h2, by rw [h1]; simpa [okDst] using hd⟩
 ·cases h
theorem dstNo_get (h : dstNo o = true) : o.dst = none ∧ o.guard = none ∧ okDst n o.dst = true := by
 unfold dstNo at h
 split at h
 ·rename_i h1 h2
  exact ⟨h1, h2, by rw [h1]; rfl⟩
 ·cases h
theorem dstG_get {want : Bool} (h : dstG n d j want o = true) : o.dst = some d ∧ o.guard = some (j, want) ∧ okDst n o.dst = true := by
 unfold dstG at h
 split at h
 ·rename_i h1 h2
  simp only [Bool.and_eq_true, beq_iff_eq, decide_eq_true_eq] at h
  obtain ⟨⟨⟨rfl, hd⟩, rfl⟩, rfl⟩ := h
  exact ⟨h1, h2, by rw [h1]; simpa [okDst] using hd⟩
 ·cases h

theorem S.sil (d : Nat) (ho : ops[i]? = some o) (hd : dstIs n d o = true) (h : ∀ H, F H → OpS P o (ev E) H v H) (t : Run F draw P ops n ord l (.sil :: acc) Q ⟨(d, v) :: E, H⟩) : Run F draw P ops n ord (i :: l) acc Q ⟨E, H⟩ := by
 obtain ⟨h1, h2, h3⟩ := dstIs_get hd
 have := Run.cons (F := F) (acc := acc) (Q := Q) (draw := draw) (ord := ord) (l := l) ho (.sil ⟨E, H⟩ v h2 h3 h) id
 rw [h1] at this
 exact this t
theorem S.qui (d : Nat) (ho : ops[i]? = some o) (hd : dstIs n d o = true) (h : ∀ X, OpS P o (ev E) (H ++ X) v (H ++ X)) (t : Run F draw P ops n ord l (.qui :: acc) Q ⟨(d, v) :: E, H⟩) : Run F draw P ops n ord (i :: l) acc Q ⟨E, H⟩ := by
 obtain ⟨h1, h2, h3⟩ := dstIs_get hd
 have := Run.cons (F := F) (acc := acc) (Q := Q) (draw := draw) (ord := ord) (l := l) ho (.qui ⟨E, H⟩ v h2 h3 h) id
 rw [h1] at this
 exact this t
theorem S.new {obs : List AObj} (d : Nat) (ho : ops[i]? = some o) (hd : dstIs n d o = true) (h : OpS P o (ev E) H v (H ++ obs)) (hF : F (H ++ obs)) (t : Run F draw P ops n ord l (.new :: acc) Q ⟨(d, v) :: E, H ++ obs⟩) : Run F draw P ops n ord (i :: l) acc Q ⟨E, H⟩ := by
 obtain ⟨h1, h2, h3⟩ := dstIs_get hd
 have := Run.cons (F := F) (acc := acc) (Q := Q) (draw := draw) (ord := ord) (l := l) ho (.new ⟨E, H⟩ v obs h2 h3 h) (fun _ => hF)
 rw [h1] at this
 exact this t
theorem S.eff {H' : List AObj} (d : Nat) (ho : ops[i]? = some o) (hd : dstIs n d o = true) (h : OpS P o (ev E) H v H') (hF : F H') (t : Run F draw P ops n ord l (.eff :: acc) Q ⟨(d, v) :: E, H'⟩) : Run F draw P ops n ord (i :: l) acc Q ⟨E, H⟩ := by
 obtain ⟨h1, h2, h3⟩ := dstIs_get hd
 have := Run.cons (F := F) (acc := acc) (Q := Q) (draw := draw) (ord := ord) (l := l) ho (.eff ⟨E, H⟩ v H' h2 h3 h) (fun _ => hF)
 rw [h1] at this
 exact this t
theorem S.effN (ho : ops[i]? = some o) (hd : dstNo o = true) (h : OpS P o (ev E) H v H') (hF : F H') (t : Run F draw P ops n ord l (.eff :: acc) Q ⟨E, H'⟩) : Run F draw P ops n ord (i :: l) acc Q ⟨E, H⟩ := by
 obtain ⟨h1, h2, h3⟩ := dstNo_get (n := n) hd
 have := Run.cons (F := F) (acc := acc) (Q := Q) (draw := draw) (ord := ord) (l := l) ho (.eff ⟨E, H⟩ v H' h2 h3 h) (fun _ => hF)
 rw [h1] at this
 exact this t
theorem ifT {c : Prop} [Decidable c] {u v w : V} (h : c) (hx : u = if c then v else w) : u = v := by rw [hx, if_pos h]

theorem S.gsil (d j d' : Nat) (want : Bool) {b : Bool} (ho : ops[i]? = some o) (hd : dstG n d j want o = true) (hj : guardDst ops j = some d') (hb : look E d' = .bool b)
  (h : b = want → ∀ H, F H → OpS P o (ev E) H v H) (t : Run F draw P ops n ord l (.sil :: acc) Q ⟨(d, if b = want then v else .tup []) :: E, H⟩) : Run F draw P ops n ord (i :: l) acc Q ⟨E, H⟩ := by
 obtain ⟨h1, hg, h3⟩ := dstG_get hd
 have := Run.cons (F := F) (acc := acc) (Q := Q) (draw := draw) (ord := ord) (l := l) ho
  (.gsil ⟨E, H⟩ v j d' want (b = want) hg hj (fun e => by rw [hb, e]) (fun e => .inl (by rw [hb]; cases b <;> cases want <;> first | rfl | exact absurd rfl e)) h3 h) id
 rw [h1] at this
 exact this t
theorem S.gqui (d j d' : Nat) (want : Bool) {b : Bool} (ho : ops[i]? = some o) (hd : dstG n d j want o = true) (hj : guardDst ops j = some d') (hb : look E d' = .bool b)
  (h : b = want → ∀ X, OpS P o (ev E) (H ++ X) v (H ++ X)) (t : Run F draw P ops n ord l (.qui :: acc) Q ⟨(d, if b = want then v else .tup []) :: E, H⟩) : Run F draw P ops n ord (i :: l) acc Q ⟨E, H⟩ := by
 obtain ⟨h1, hg, h3⟩ := dstG_get hd
 have := Run.cons (F := F) (acc := acc) (Q := Q) (draw := draw) (ord := ord) (l := l) ho
  (.gqui ⟨E, H⟩ v j d' want (b = want) hg hj (fun e => by rw [hb, e]) (fun e => .inl (by rw [hb]; cases b <;> cases want <;> first | rfl | exact absurd rfl e)) h3 h) id
 rw [h1] at this
 exact this t
end

section
variable {P : Program} {n m : Nat} {Q : AEx → St → Prop} {s s' : St}

theorem W.reg {ops : Array Oper} (l : List Nat) (hl : List.range ops.size = l) (h : Run (fun _ => True) false P ops n [] l [] Q s) : AWp P n m (.region id ops false) Q s := by
 subst hl
 obtain ⟨s', ks, h1, _, h3⟩ := h trivial
 exact .region h1 h3
theorem W.regD {ops : Array Oper} (ord : List Nat) (hm : P.follows .mixedOrders = true) (h : Run (fun _ => True) true P ops n ord ord [] Q s) : AWp P n m (.region id ops true) Q s := by
 obtain ⟨s', ks, h1, h2, h3⟩ := h trivial
 exact .regionD hm ord h1 (by simpa using h2.resolve_left (by simp)) h3
theorem W.regF {ops : Array Oper} (F : List AObj → Prop) (hF : F s.H) (ord : List Nat) (hm : P.follows .mixedOrders = true) (h : Run F true P ops n ord ord [] Q s) : AWp P n m (.region id ops true) Q s := by
 obtain ⟨s', ks, h1, h2, h3⟩ := h hF
 exact .regionD hm ord h1 (by simpa using h2.resolve_left (by simp)) h3

end

/-- The arguments of a call, one by one. -/
theorem SubL.c {u v : V} {vs : List V} (hx : u = v) (h : v.sub v') (t : SubL us vs) : SubL (u :: us) (v' :: vs) := by subst hx; exact .cons h t

theorem OpS.callQ {P : Program} {E : Operand → V} {H : List AObj} {dst : Option Tmp} {ty : TypeId} {pos : String} {aft : Array Edge} {gd : Option (Nat × Bool)} {args : Array Operand} {f : FuncId} {cap : List V} {v : V}
  (hE : enters P f = true) (hx : E x = .fn f first cap) (ha : SubL (first ++ args.toList.map E ++ cap) args') (hs : PureC P f args' v) : OpS P ⟨dst, .call ⟨.value x, args, ats⟩, ty, pos, aft, gd⟩ E H v H := .callP hE hx hs ha

section
variable {P : Program} {E : Operand → V} {H : List AObj} {dst : Option Tmp} {ty : TypeId} {pos : String} {aft : Array Edge} {gd : Option (Nat × Bool)}

/-- The values of operands, one by one. -/
inductive ValsL (E : Operand → V) (e : Nat) : List (Nat × Operand) → Nat → List V → Prop where
 | nil {k : Nat} : ValsL E e [] k []
 | cons {k : Nat} {x : Operand} {u : V} {ps : List (Nat × Operand)} {us : List V} (hx : E x = u) (hk : okV u = true) (hn : flen u = e) (t : ValsL E e ps (k + 1) us) : ValsL E e ((k, x) :: ps) k (u :: us)

theorem ValsL.spec {e : Nat} {ps : List (Nat × Operand)} {k : Nat} (h : ValsL E e ps k us) : (ps.map fun p => (p.1, E p.2)) = seqParts k us ∧ ∀ v ∈ us, okV v = true ∧ flen v = e := by
 induction h with
 | nil => exact ⟨rfl, fun v h => by cases h⟩
 | cons hx hk hn _ ih =>
  refine ⟨by simp [seqParts, hx, ih.1], fun v hv => ?_⟩
  rcases List.mem_cons.1 hv with rfl | hv
  ·exact ⟨hk, hn⟩
  ·exact ih.2 v hv

theorem OpS.buildSliceL {t : TypeId} {len : Nat} {e : Nat} {b : Bool} {z : V} {vs : List V} (hl : sliOf P t = some (et, e, b, by_)) (hz : ZeroV P et z) (hze : flen z = e) (hlen : vs.length = len) (hsm : len * e ≤ 2 ^ 24)
  (hp : ValsL E e parts.toList 0 vs) : OpS P ⟨dst, .buildSlice t len parts, ty, pos, aft, gd⟩ E H (.sl e .exact vs) H :=
 .buildSlice hl hz hze hlen hsm hp.spec.1 hp.spec.2

/-- A literal's parts put into the zero value, one by one. -/
inductive FillL (E : Operand → V) (place : Nat → Option (Nat × Nat)) : V → List (Nat × Operand) → V → Prop where
 | nil {z : V} : FillL E place z [] z
 | cons {i : Nat} {x : Operand} {u z r : V} {ps : List (Nat × Operand)} (hx : E x = u) (hk : okV u = true)
   (hp : ((place i == some (z.offOf [i] 0, flen ((z.at [i]).getD .undef))) && (z.at [i]).isSome) = true) (hn : flen u = flen ((z.at [i]).getD .undef)) (t : FillL E place (z.setAt [i] u) ps r) : FillL E place z ((i, x) :: ps) r

theorem FillL.spec {place : Nat → Option (Nat × Nat)} {z r : V} {ps : List (Nat × Operand)} (h : FillL E place z ps r) : fillOK place z (ps.map fun p => (p.1, E p.2)) ∧ setParts z (ps.map fun p => (p.1, E p.2)) = r := by
 induction h with
 | nil => exact ⟨trivial, rfl⟩
 | @cons i x u z r ps hx hk hp hn _ ih =>
  simp only [Bool.and_eq_true, beq_iff_eq] at hp
  obtain ⟨h1, h2⟩ := hp
  obtain ⟨w, hw⟩ := Option.isSome_iff_exists.1 h2
  rw [hw] at h1 hn
  refine ⟨?_, by simpa [setParts, hx] using ih.2⟩
  simp only [List.map_cons, fillOK, hx]
  exact ⟨hk, ⟨_, _, w, h1, hw, rfl, rfl, hn⟩, ih.1⟩

theorem OpS.buildArrL {t : TypeId} {len e : Nat} {b : Bool} {z v w : V} (hl : arrOf P t = some (len, e, b)) (hz : ZeroV P t z) (hp : FillL E (fun i => some (i * e, e)) z parts.toList v) (he : v = w) (ha : w.isAgg = true) :
  OpS P ⟨dst, .build t parts, ty, pos, aft, gd⟩ E H w H := by subst he; exact .buildArr hl hz hp.spec.1 hp.spec.2 ha

theorem mapE1 {a : Operand} {x : V} (h : E a = x) : #[a].toList.map E = [x] := by simp [h]
end

theorem OpS.nf {P : Program} {o : Oper} {E : Operand → V} {H : List AObj} {v : V} (h : OpS P o E H v H') (hv : v = v2) (hH : H' = H2) : OpS P o E H v2 H2 := by subst hv; subst hH; exact h
theorem OpS.nv {P : Program} {o : Oper} {E : Operand → V} {H : List AObj} {v : V} (h : OpS P o E H v H') (hv : v = v2) : OpS P o E H v2 H' := by subst hv; exact h
theorem V.setAt_nil (v u : V) : v.setAt [] u = u := by cases v <;> rfl
theorem V.setAt_st (vs : List V) (k : Nat) (p : List Nat) (u : V) : (V.st vs).setAt (k :: p) u = .st (vs.set k ((vs.getD k .undef).setAt p u)) := rfl
theorem V.setAt_arr (e : Nat) (vs : List V) (k : Nat) (p : List Nat) (u : V) : (V.arr e vs).setAt (k :: p) u = .arr e (vs.set k ((vs.getD k .undef).setAt p u)) := rfl
/-- An environment against the one that is wanted. -/
inductive EnvS (env : List (Nat × V)) : List (Nat × V) → Prop where
 | nil : EnvS env []
 | cons {t : Nat} {v v' : V} {r : List (Nat × V)} (h : look env t = v) (hs : v.sub v') (k : EnvS env r) : EnvS env ((t, v') :: r)

theorem EnvS.eq {env : List (Nat × V)} {t : Nat} {v : V} (h : look env t = v) (he : v = v') (k : EnvS env r) : EnvS env ((t, v') :: r) := .cons h (by rw [he]; exact .refl _) k

theorem EnvS.sub {env : List (Nat × V)} (h : EnvS env env') : EnvSub env env' := by
 induction h with
 | nil => exact fun _ => .undef _
 | cons h hs _ ih =>
  intro t
  rw [look_cons]
  split
  ·rename_i e; subst e; rw [h]; exact hs
  ·exact ih t

theorem Wk.to {n m : Nat} {env : List (Nat × V)} {H : List AObj} (k : Nat) (hm : m ≤ k) (hH : H.take k = H') (he : EnvS env env') (hl : envLt k env' = true) (ho : objsLt k H' = true) : Wk n m ⟨env, H⟩ ⟨env', H'⟩ := by
 subst hH
 exact (Wk.keep he.sub).trans (.trunc k hm hl ho)

theorem AWp.prune {P : Program} {n m : Nat} {Q : AEx → St → Prop} {env : List (Nat × V)} {H : List AObj} {c : Code} (k : EnvS env env') (h : AWp P n m c Q ⟨env', H⟩) : AWp P n m c Q ⟨env, H⟩ := .wk (.keep k.sub) h
end
section
variable {g : Gh} {vx vy : V}

inductive Sh where
 | int (k : IntKind)
 | bool
 | str
 | st (fs : List (Nat × Sh)) (n : Nat)
 | arr (n e : Nat) (s : Sh)
 deriving Inhabited

def shOf (P : Program) : Nat → TypeId → Option Sh
 | 0, _ => none
 | d + 1, t => match P.underlying t with
  | some (.int k) => some (.int k)
  | some .bool => some .bool
  | some .string => some .str
  | some (.struct fs) => if P.stoodInHeld t then none else
    match (fs.toList.mapM fun f => if f.name = "_" then none else (shOf P d f.type).map fun s => (f.offset, s)), szOf P t with
    | some l, some n => some (.st l n)
    | _, _ => none
  | some (.array n e) => match shOf P d e, szOf P e, szOf P t with
   | some s, some i, some j => if j = n * i then some (.arr n i s) else none
   | _, _, _ => none
  | _ => none

mutual
def hasSh : Sh → V → Bool
 | .int k, .int k' _ => decide (k = k')
 | .bool, .bool _ => true
 | .str, .str _ => true
 | .st fs n, .st vs => decide (flenL vs = n) && hasShF 0 fs vs
 | .arr n e s, .arr e' vs => decide (e' = e) && decide (vs.length = n) && hasShA s vs
 | _, _ => false
def hasShF : Nat → List (Nat × Sh) → List V → Bool
 | _, [], [] => true
 | acc, (off, s) :: fs, v :: vs => decide (off = acc) && hasSh s v && hasShF (acc + flen v) fs vs
 | _, _, _ => false
def hasShA : Sh → List V → Bool
 | _, [] => true
 | s, v :: vs => hasSh s v && hasShA s vs
end

mutual
def eqV : V → V → Bool
 | .int k a, .int k' b => decide (k = k') && decide (a = b)
 | .bool a, .bool b => a == b
 | .str a, .str b => a == b
 | .st xs, .st ys => eqVL xs ys
 | .arr _ xs, .arr _ ys => eqVL xs ys
 | _, _ => false
def eqVL : List V → List V → Bool
 | [], [] => true
 | x :: xs, y :: ys => eqV x y && eqVL xs ys
 | _, _ => false
end

theorem shOf_agg {P : Program} {t : TypeId} {s : Sh} (h : shOf P d t = some s) {x : V} (hx : hasSh s x = true) : aggOf P t = some x.isAgg ∧ (x.isAgg = true → szOf P t = some (flen x)) := by
 cases d with
 | zero => simp [shOf] at h
 | succ d =>
  unfold shOf at h
  unfold aggOf
  split at h
  ·rename_i k hu; rw [hu]; cases h; cases x <;> simp_all [hasSh, descAgg, V.isAgg]
  ·rename_i hu; rw [hu]; cases h; cases x <;> simp_all [hasSh, descAgg, V.isAgg]
  ·rename_i hu; rw [hu]; cases h; cases x <;> simp_all [hasSh, descAgg, V.isAgg]
  ·rename_i fs hu
   split at h
   ·cases h
   ·split at h
    ·rename_i l n hl hn
     cases h
     rw [hu]
     cases x <;> simp [hasSh] at hx
     exact ⟨rfl, fun _ => by rw [hn, flen, hx.1]⟩
    ·cases h
  ·rename_i n e hu
   split at h
   ·rename_i s' i j hs hi hj
    split at h
    ·rename_i hji
     cases h
     rw [hu]
     cases x <;> simp [hasSh] at hx
     exact ⟨rfl, fun _ => by rw [hj, flen, hx.1.2, hx.1.1, hji]⟩
    ·cases h
   ·cases h
  ·cases h

/-- A part, of the size that its type has. -/
theorem run_part_sh {P : Program} {t : TypeId} {pre c post : List Value} {cs : Array Value} {off : Nat} {x : V} (hc : cs.toList = pre ++ c ++ post) (hp : pre.length = off) (hx : RC g x c)
  (ha : aggOf P t = some x.isAgg) (hs : x.isAgg = true → szOf P t = some (flen x)) (w : World) : (part t cs off).run P w = .ok (mkVal x.isAgg c) w := by
 cases hb : x.isAgg with
 | true => exact hb ▸ run_part hc hp hx.len (hs hb) ha (fun e => by rw [hb] at e; cases e) w
 | false =>
  have hl : c.length = 1 := by rw [hx.len, flen_leaf hb]
  rw [hb] at ha
  unfold part
  rw [Sem.run_bind, run_isAgg' ha]
  cases c with
  | nil => simp at hl
  | cons y r =>
   have : cs[off]? = some y := by
    have : cs.toList[off]? = some y := by
     rw [hc, ← hp, List.append_assoc, List.getElem?_append_right (Nat.le_refl _)]
     simp
    simpa using this
   simp [mkVal, this]

theorem mkVal_agg (c : List Value) : mkVal true c = .agg c.toArray := rfl

theorem mkVal_one (x : Value) : mkVal false [x] = x := rfl

theorem run_equal_sh {P : Program} : ∀ (d : Nat) (t : TypeId) (s : Sh), shOf P d t = some s → ∀ (x y : V) (g : Gh) (cx cy : List Value) (w : World) (dd : Nat), hasSh s x = true → hasSh s y = true → RC g x cx → RC g y cy →
  (Op.equalIn (dd + d) t (mkVal x.isAgg cx) (mkVal y.isAgg cy)).run P w = .ok (eqV x y) w
 | 0, t, s, h => by simp [shOf] at h
 | d + 1, t, s, h => by
  intro x y g cx cy w dd hx hy rx ry
  have IH := fun t s h => run_equal_sh (P := P) d t s h
  unfold shOf at h
  split at h
  ·rename_i k hu
   cases h
   cases x <;> simp only [hasSh, Bool.false_eq_true, decide_eq_true_eq] at hx
   cases y <;> simp only [hasSh, Bool.false_eq_true, decide_eq_true_eq] at hy
   subst hx; subst hy
   simp only [RC] at rx ry
   subst rx; subst ry
   simp only [V.isAgg, mkVal_one, eqV]
   rw [show dd + (d + 1) = (dd + d) + 1 from rfl, run_equalIn_int w _ t _ _ _ _ hu]
   simp only [decide_true, Bool.true_and]
   rfl
  ·rename_i hu
   cases h
   cases x <;> simp only [hasSh, Bool.false_eq_true] at hx
   cases y <;> simp only [hasSh, Bool.false_eq_true] at hy
   simp only [RC] at rx ry
   subst rx; subst ry
   simp only [V.isAgg, mkVal_one, eqV]
   rw [show dd + (d + 1) = (dd + d) + 1 from rfl, run_equalIn_bool' w _ t _ _ hu]
  ·rename_i hu
   cases h
   cases x <;> simp only [hasSh, Bool.false_eq_true] at hx
   cases y <;> simp only [hasSh, Bool.false_eq_true] at hy
   simp only [RC] at rx ry
   subst rx; subst ry
   simp only [V.isAgg, mkVal_one, eqV]
   rw [show dd + (d + 1) = (dd + d) + 1 from rfl, run_equalIn_string w _ t _ _ hu, beq_toListBytes]
  ·rename_i fs hu
   split at h
   ·cases h
   ·rename_i hst
    split at h
    ·rename_i l n hl hn
     cases h
     cases x <;> simp only [hasSh, Bool.false_eq_true] at hx
     cases y <;> simp only [hasSh, Bool.false_eq_true] at hy
     rename_i vs us
     simp only [RC] at rx ry
     simp only [Bool.and_eq_true] at hx hy
     have hf : P.fieldsOf t = fs := by simp [Program.fieldsOf, hu]
     simp only [V.isAgg, mkVal_agg, eqV]
     rw [show dd + (d + 1) = (dd + d) + 1 from rfl, run_equalIn_struct w _ t _ _ (by rw [hf]; exact hu) (by simpa using hst), hf]
     have key : ∀ (fs : List Field) (l : List (Nat × Sh)), (fs.mapM fun f => if f.name = "_" then none else (shOf P d f.type).map fun s => (f.offset, s)) = some l →
       ∀ (vs us : List V) (px py rx' ry' : List Value) (acc acc' : Nat), hasShF acc l vs = true → hasShF acc' l us = true → RCs g vs rx' → RCs g us ry' → px.length = acc → py.length = acc' → cx = px ++ rx' → cy = py ++ ry' →
       (Op.eqFields (dd + d) cx.toArray cy.toArray fs).run P w = .ok (eqVL vs us) w := by
      intro fs
      induction fs with
      | nil =>
       intro l hl vs us px py rx' ry' acc acc' h1 h2 _ _ _ _ _ _
       simp at hl; subst hl
       cases vs <;> simp only [hasShF, Bool.false_eq_true] at h1
       cases us <;> simp only [hasShF, Bool.false_eq_true] at h2
       rfl
      | cons f fs ih =>
       intro l hl vs us px py rx' ry' acc acc' h1 h2 r1 r2 e1 e2 e3 e4
       rw [List.mapM_cons] at hl
       by_cases hname : f.name = "_"
       ·simp [hname] at hl
       ·simp only [hname, if_false] at hl
        cases hs : shOf P d f.type with
        | none => simp [hs] at hl
        | some sf =>
         cases hm : (fs.mapM fun f => if f.name = "_" then none else (shOf P d f.type).map fun s => (f.offset, s)) with
         | none => simp [hs, hm] at hl
         | some l' =>
          simp [hs, hm] at hl
          subst hl
          cases vs with
          | nil => simp only [hasShF, Bool.false_eq_true] at h1
          | cons v vs =>
           cases us with
           | nil => simp only [hasShF, Bool.false_eq_true] at h2
           | cons u us =>
            simp only [hasShF, Bool.and_eq_true, decide_eq_true_eq] at h1 h2
            obtain ⟨⟨o1, s1⟩, k1⟩ := h1
            obtain ⟨⟨o2, s2⟩, k2⟩ := h2
            simp only [RCs] at r1 r2
            obtain ⟨a1, b1, q1, q2, q3⟩ := r1
            obtain ⟨a2, b2, p1, p2, p3⟩ := r2
            obtain ⟨g1, g2⟩ := shOf_agg hs s1
            obtain ⟨g1', g2'⟩ := shOf_agg hs s2
            have hp1 := run_part_sh (P := P) (t := f.type) (pre := px) (c := a1) (post := b1) (cs := cx.toArray) (off := f.offset) (x := v) (by simp [e3, q1]) (by omega) q2 g1 g2 w
            have hp2 := run_part_sh (P := P) (t := f.type) (pre := py) (c := a2) (post := b2) (cs := cy.toArray) (off := f.offset) (x := u) (by simp [e4, p1]) (by omega) p2 g1' g2' w
            have he := IH f.type sf hs v u g a1 a2 w dd s1 s2 q2 p2
            have hrest := ih l' hm vs us (px ++ a1) (py ++ a2) b1 b2 (acc + flen v) (acc' + flen u) k1 k2 q3 p3 (by rw [List.length_append, q2.len, e1]) (by rw [List.length_append, p2.len, e2]) (by rw [e3, q1]; simp) (by rw [e4, p1]; simp)
            simp only [Op.eqFields, hname, ne_eq, not_false_eq_true, if_true, Sem.run_bind, hp1, hp2, he, Result.andThen_ok, eqVL]
            cases eqV v u
            ·simp
            ·simpa using hrest
     exact key fs.toList l hl vs us [] [] cx cy 0 0 hx.2 hy.2 rx ry rfl rfl rfl rfl
    ·cases h
  ·rename_i n e hu
   split at h
   ·rename_i s' i j hs hi hj
    split at h
    ·cases h
     cases x <;> simp only [hasSh, Bool.false_eq_true] at hx
     cases y <;> simp only [hasSh, Bool.false_eq_true] at hy
     rename_i e1 vs e2 us
     simp only [Bool.and_eq_true, decide_eq_true_eq] at hx hy
     obtain ⟨⟨rfl, hlx⟩, hx⟩ := hx
     obtain ⟨⟨rfl, hly⟩, hy⟩ := hy
     simp only [RC] at rx ry
     have hinfo : ∃ ti, P.info? e = some ti ∧ P.cellsOf e = e2 := by
      unfold szOf at hi
      cases hq : P.info? e with
      | none => simp [hq] at hi
      | some ti => exact ⟨ti, rfl, by simpa [Program.cellsOf, hq] using hi⟩
     obtain ⟨ti, hti, hcells⟩ := hinfo
     simp only [V.isAgg, mkVal_agg, eqV]
     rw [show dd + (d + 1) = (dd + d) + 1 from rfl, run_equalIn_array w _ _ _ hu hti, hcells]
     have key : ∀ (vs us : List V) (k : Nat) (px py rx' ry' : List Value), hasShA s' vs = true → hasShA s' us = true → vs.length = us.length → RCu g e2 vs rx' → RCu g e2 us ry' → px.length = k * e2 → py.length = k * e2 → cx = px ++ rx' → cy = py ++ ry' →
       (Op.eqItems (dd + d) e e2 cx.toArray cy.toArray (List.range' k vs.length)).run P w = .ok (eqVL vs us) w := by
      intro vs
      induction vs with
      | nil =>
       intro us k px py rx' ry' _ _ hl _ _ _ _ _ _
       cases us with
       | nil => rfl
       | cons u us => simp at hl
      | cons v vs ih =>
       intro us k px py rx' ry' h1 h2 hl r1 r2 l1 l2 e3 e4
       cases us with
       | nil => simp at hl
       | cons u us =>
        simp only [hasShA, Bool.and_eq_true] at h1 h2
        simp only [RCu] at r1 r2
        obtain ⟨a1, b1, q1, q0, q2, q3⟩ := r1
        obtain ⟨a2, b2, p1, p0, p2, p3⟩ := r2
        obtain ⟨g1, g2⟩ := shOf_agg hs h1.1
        obtain ⟨g1', g2'⟩ := shOf_agg hs h2.1
        have hp1 := run_part_sh (P := P) (t := e) (pre := px) (c := a1) (post := b1) (cs := cx.toArray) (off := k * e2) (x := v) (by simp [e3, q1]) l1 q2 g1 g2 w
        have hp2 := run_part_sh (P := P) (t := e) (pre := py) (c := a2) (post := b2) (cs := cy.toArray) (off := k * e2) (x := u) (by simp [e4, p1]) l2 p2 g1' g2' w
        have he := IH e s' hs v u g a1 a2 w dd h1.1 h2.1 q2 p2
        have hrest := ih us (k + 1) (px ++ a1) (py ++ a2) b1 b2 h1.2 h2.2 (by simpa using hl) q3 p3 (by rw [List.length_append, l1, q0, Nat.succ_mul]) (by rw [List.length_append, l2, p0, Nat.succ_mul]) (by rw [e3, q1]; simp) (by rw [e4, p1]; simp)
        rw [List.length_cons, List.range'_succ]
        simp only [Op.eqItems, Sem.run_bind, hp1, hp2, he, Result.andThen_ok, eqVL]
        cases eqV v u
        ·simp
        ·simpa using hrest
     have := key vs us 0 [] [] cx cy hx hy (by omega) rx ry (by simp) (by simp) rfl rfl
     rw [hlx] at this
     rw [List.range_eq_range']
     exact this
    ·cases h
   ·cases h
  ·cases h

section
variable {P : Program} {E : Operand → V} {H : List AObj} {dst : Option Tmp} {ty : TypeId} {pos : String} {aft : Array Edge} {gd : Option (Nat × Bool)}

/-- What '==' of a type asks: its shape, and that the guard has nothing to say. -/
def EqT (P : Program) (t : TypeId) (s : Sh) : Prop := shOf P 20 t = some s ∧ P.eqGuardType P.depth t = false

theorem run_eqv {t : TypeId} {s : Sh} (ht : EqT P t s) {x y : V} {u v : Value} (hx : hasSh s x = true) (hy : hasSh s y = true) (ax : x.isAgg = true) (ay : y.isAgg = true) (rx : RV g x u) (ry : RV g y v) (w : World) :
  ∃ cx cy : Array Value, u = .agg cx ∧ v = .agg cy ∧ (Op.equalIn 10000 t (.agg cx) (.agg cy)).run P w = .ok (eqV x y) w := by
 obtain ⟨cx, rfl, hcx⟩ := rx.agg_eq ax
 obtain ⟨cy, rfl, hcy⟩ := ry.agg_eq ay
 refine ⟨cx, cy, rfl, rfl, ?_⟩
 have := run_equal_sh 20 t s ht.1 x y g _ _ w 9980 hx hy hcx hcy
 rw [ax, ay, mkVal_agg, mkVal_agg] at this
 simpa using this

theorem OpS.eqlV {t : TypeId} {s : Sh} (ht : EqT P t s) (hx : E x = vx) (hy : E y = vy) (sx : hasSh s vx = true) (sy : hasSh s vy = true) (ax : vx.isAgg = true) (ay : vy.isAgg = true) :
  OpS P ⟨dst, .binOp .eql t x y t', ty, pos, aft, gd⟩ E H (.bool (eqV vx vy)) H :=
 .quiet fun g rc w h _ => by
  obtain ⟨cx, cy, e1, e2, hr⟩ := run_eqv ht sx sy ax ay (hx ▸ h x (by simp [Op.operands])) (hy ▸ h y (by simp [Op.operands])) w
  refine ⟨.bool (eqV vx vy), ?_, RV.bool g _⟩
  simp only [execOp, e1, e2, Sem.run_bind, run_eqGuard_agg w .eql t x y cx cy ht.2, Result.andThen_ok, run_eql_struct, hr, Sem.run_pure]

theorem OpS.neqV {t : TypeId} {s : Sh} (ht : EqT P t s) (hx : E x = vx) (hy : E y = vy) (sx : hasSh s vx = true) (sy : hasSh s vy = true) (ax : vx.isAgg = true) (ay : vy.isAgg = true) :
  OpS P ⟨dst, .binOp .neq t x y t', ty, pos, aft, gd⟩ E H (.bool (!(eqV vx vy))) H :=
 .quiet fun g rc w h _ => by
  obtain ⟨cx, cy, e1, e2, hr⟩ := run_eqv ht sx sy ax ay (hx ▸ h x (by simp [Op.operands])) (hy ▸ h y (by simp [Op.operands])) w
  refine ⟨.bool (!(eqV vx vy)), ?_, RV.bool g _⟩
  simp only [execOp, e1, e2, Sem.run_bind, run_eqGuard_agg w .neq t x y cx cy ht.2, Result.andThen_ok, run_neq_struct, hr, Sem.run_pure]

end

end
end Go.Av
