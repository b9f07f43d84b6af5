/- Operations over abstract values: those that only compute. -/
import Derived.Test.YtdbiobndihpccabAvCore6
import Derived.Laws.Sem
import Derived.Laws.Entries
namespace Go.Av
set_option linter.unusedVariables false
set_option linter.unusedSimpArgs false

/-! What is asked of the program's types. -/

def szOf (P : Program) (t : TypeId) : Option Nat := (P.info? t).map (·.size)
def descAgg : TypeDesc → Bool
  | .struct _ => true
  | .array _ _ => true
  | _ => false
def aggOf (P : Program) (t : TypeId) : Option Bool := (P.underlying t).map descAgg
def layOf (P : Program) (t : TypeId) : Option (List (Nat × Nat × Bool)) :=
  match P.underlying t with
  | some (.struct fs) => fs.toList.mapM fun f => match szOf P f.type, aggOf P f.type with
    | some n, some b => some (f.offset, n, b)
    | _, _ => none
  | _ => none
def arrOf (P : Program) (t : TypeId) : Option (Nat × Nat × Bool) :=
  match P.underlying t with
  | some (.array len e) => match szOf P e, aggOf P e with
    | some n, some b => some (len, n, b)
    | _, _ => none
  | _ => none
def sliOf (P : Program) (t : TypeId) : Option (TypeId × Nat × Bool × Nat) :=
  match P.underlying t with
  | some (.slice e) => match szOf P e, aggOf P e with
    | some n, some b => some (e, n, b, ((P.info? e).map (·.bytes)).getD 0)
    | _, _ => none
  | _ => none

theorem run_sizeOf' {P : Program} {t : TypeId} {n : Nat} (h : szOf P t = some n) (w : World) : (sizeOf t).run P w = .ok n w := by
  unfold szOf at h
  cases hi : P.info? t with
  | none => simp [hi] at h
  | some i =>
    simp only [hi, Option.map_some, Option.some.injEq] at h
    simp [sizeOf, typeInfo, hi, h]

theorem run_isAgg' {P : Program} {t : TypeId} {b : Bool} (h : aggOf P t = some b) (w : World) : (isAgg t).run P w = .ok b w := by
  unfold aggOf at h
  cases hi : P.underlying t with
  | none => simp [hi] at h
  | some d =>
    simp only [hi, Option.map_some, Option.some.injEq] at h
    subst h
    unfold isAgg
    rw [Sem.run_bind, run_underlying hi]
    cases d <;> rfl

theorem mapM_get {α β : Type} {f : α → Option β} : ∀ {l : List α} {l' : List β}, l.mapM f = some l' → ∀ {k : Nat} {y : β}, l'[k]? = some y → ∃ x, l[k]? = some x ∧ f x = some y
  | [], l', h, k, y, hk => by simp at h; subst h; simp at hk
  | a :: l, l', h, k, y, hk => by
    rw [List.mapM_cons] at h
    cases ha : f a with
    | none => simp [ha] at h
    | some b =>
      cases hl : l.mapM f with
      | none => simp [ha, hl] at h
      | some r =>
        simp [ha, hl] at h
        subst h
        cases k with
        | zero => simp at hk; subst hk; exact ⟨a, rfl, ha⟩
        | succ k => simp at hk; exact mapM_get hl hk

theorem layOf_get {P : Program} {t : TypeId} {l : List (Nat × Nat × Bool)} (h : layOf P t = some l) {k off n : Nat} {b : Bool} (hk : l[k]? = some (off, n, b)) :
    ∃ (fs : Array Field) (f : Field), P.underlying t = some (.struct fs) ∧ fs[k]? = some f ∧ f.offset = off ∧ szOf P f.type = some n ∧ aggOf P f.type = some b := by
  unfold layOf at h
  split at h
  · rename_i fs hu
    obtain ⟨f, h1, h2⟩ := mapM_get h hk
    refine ⟨fs, f, hu, by simpa using h1, ?_⟩
    split at h2
    · simp only [Option.some.injEq, Prod.mk.injEq] at h2
      obtain ⟨rfl, rfl, rfl⟩ := h2
      exact ⟨rfl, by assumption, by assumption⟩
    · cases h2
  · cases h

theorem arrOf_get {P : Program} {t : TypeId} {len n : Nat} {b : Bool} (h : arrOf P t = some (len, n, b)) : ∃ e, P.underlying t = some (.array len e) ∧ szOf P e = some n ∧ aggOf P e = some b := by
  unfold arrOf at h
  split at h
  · rename_i len' e hu
    split at h
    · simp only [Option.some.injEq, Prod.mk.injEq] at h
      obtain ⟨rfl, rfl, rfl⟩ := h
      exact ⟨e, hu, by assumption, by assumption⟩
    · cases h
  · cases h

theorem sliOf_get {P : Program} {t e : TypeId} {n : Nat} {b : Bool} {by_ : Nat} (h : sliOf P t = some (e, n, b, by_)) :
    P.underlying t = some (.slice e) ∧ szOf P e = some n ∧ aggOf P e = some b ∧ ((P.info? e).map (·.bytes)).getD 0 = by_ := by
  unfold sliOf at h
  split at h
  · rename_i e' hu
    split at h
    · simp only [Option.some.injEq, Prod.mk.injEq] at h
      obtain ⟨rfl, rfl, rfl, rfl⟩ := h
      exact ⟨hu, by assumption, by assumption, rfl⟩
    · cases h
  · cases h

mutual
def litV : V → Option (List Value)
  | .bool b => some [.bool b]
  | .int k n => some [.int k n]
  | .str s => some [.string s]
  | .nilp => some [.pointer none]
  | .nils => some [.slice none 0 0]
  | .nilfn => some [.nilFunc]
  | .nili => some [.nilIface]
  | .nilmap => some [.map none]
  | .st vs => litS vs
  | .arr e vs => litU e vs
  | _ => none
def litS : List V → Option (List Value)
  | [] => some []
  | v :: vs => match litV v, litS vs with
    | some a, some b => some (a ++ b)
    | _, _ => none
def litU (e : Nat) : List V → Option (List Value)
  | [] => some []
  | v :: vs => match litV v, litU e vs with
    | some a, some b => if a.length = e then some (a ++ b) else none
    | _, _ => none
end

mutual
theorem litV_rc (g : Gh) : ∀ {v : V} {cs : List Value}, litV v = some cs → RC g v cs
  | .bool _, _, h => by simp only [litV, Option.some.injEq] at h; simp only [RC]; exact h.symm
  | .int _ _, _, h => by simp only [litV, Option.some.injEq] at h; simp only [RC]; exact h.symm
  | .str _, _, h => by simp only [litV, Option.some.injEq] at h; simp only [RC]; exact h.symm
  | .nilp, _, h => by simp only [litV, Option.some.injEq] at h; simp only [RC]; exact h.symm
  | .nils, _, h => by simp only [litV, Option.some.injEq] at h; simp only [RC]; exact h.symm
  | .nilfn, _, h => by simp only [litV, Option.some.injEq] at h; simp only [RC]; exact h.symm
  | .nili, _, h => by simp only [litV, Option.some.injEq] at h; simp only [RC]; exact h.symm
  | .nilmap, _, h => by simp only [litV, Option.some.injEq] at h; simp only [RC]; exact h.symm
  | .st _, _, h => by simp only [litV] at h; simp only [RC]; exact litS_rc g h
  | .arr _ _, _, h => by simp only [litV] at h; simp only [RC]; exact litU_rc g h
  | .ptr _ _ _, _, h => by simp only [litV] at h; cases h
  | .cptr _, _, h => by simp only [litV] at h; cases h
  | .sl _ _ _, _, h => by simp only [litV] at h; cases h
  | .slo _ _ _ _ _ _ _, _, h => by simp only [litV] at h; cases h
  | .fn _ _ _, _, h => by simp only [litV] at h; cases h
  | .ifc _ _, _, h => by simp only [litV] at h; cases h
  | .tup _, _, h => by simp only [litV] at h; cases h
  | .map _, _, h => by simp only [litV] at h; cases h
  | .undef, _, h => by simp only [litV] at h; cases h
theorem litS_rc (g : Gh) : ∀ {vs : List V} {cs : List Value}, litS vs = some cs → RCs g vs cs
  | [], _, h => by simp only [litS, Option.some.injEq] at h; simp only [RCs]; exact h.symm
  | v :: vs, _, h => by
    simp only [litS] at h
    split at h
    · rename_i a b h1 h2
      simp only [Option.some.injEq] at h
      simp only [RCs]
      exact ⟨a, b, h.symm, litV_rc g h1, litS_rc g h2⟩
    · cases h
theorem litU_rc (g : Gh) : ∀ {e : Nat} {vs : List V} {cs : List Value}, litU e vs = some cs → RCu g e vs cs
  | _, [], _, h => by simp only [litU, Option.some.injEq] at h; simp only [RCu]; exact h.symm
  | _, v :: vs, _, h => by
    simp only [litU] at h
    split at h
    · rename_i a b h1 h2
      split at h
      · rename_i hl
        simp only [Option.some.injEq] at h
        simp only [RCu]
        exact ⟨a, b, h.symm, hl, litV_rc g h1, litU_rc g h2⟩
      · cases h
    · cases h
end

/-- The zero value of a type. -/
def ZeroV (P : Program) (t : TypeId) (z : V) : Prop := ∃ val, (P.info? t).bind (·.zero) = some val ∧ z.isAgg = valAgg val ∧ litV z = some val.cells.toList

theorem ZeroV.run {P : Program} {t : TypeId} {z : V} (h : ZeroV P t z) (w : World) (g : Gh) : ∃ val, (zeroValue t).run P w = .ok val w ∧ RC g z val.cells.toList ∧ z.isAgg = valAgg val := by
  obtain ⟨val, h1, h2, h3⟩ := h
  refine ⟨val, ?_, litV_rc g h3, h2⟩
  cases hi : P.info? t with
  | none => simp [hi] at h1
  | some i =>
    simp only [hi, Option.bind_some] at h1
    simp [zeroValue, typeInfo, hi, h1]

/-! The operations. -/

section
variable {P : Program} {E : Operand → V} {H : List AObj} {dst : Option Tmp} {ty : TypeId} {pos : String} {aft : Array Edge} {gd : Option (Nat × Bool)}

theorem OpS.quiet {o : Oper} {v : V} (h : ∀ g (rc : Operand → Value) w, (∀ x ∈ o.op.operands, RV g (E x) (rc x)) → HR g H w → ∃ x, (execOp rc o).run P w = .ok (.value x) w ∧ RV g v x) : OpS P o E H v H := by
  intro g rc w h1 h2
  obtain ⟨x, hx, hv⟩ := h g rc w h1 h2
  rw [hx]
  exact ⟨g, hv, h2, .refl _ _ _⟩

theorem OpS.move {x : Operand} {v : V} (hx : E x = v) : OpS P ⟨dst, .move x, ty, pos, aft, gd⟩ E H v H :=
  .quiet fun g rc w h _ => ⟨rc x, by simp [execOp], hx ▸ h x (by simp [Op.operands])⟩

theorem OpS.assign {x : Operand} {v : V} (hx : E x = v) : OpS P ⟨dst, .assign x, ty, pos, aft, gd⟩ E H v H :=
  .quiet fun g rc w h _ => ⟨rc x, by simp [execOp], hx ▸ h x (by simp [Op.operands])⟩

theorem OpS.pick {c x y : Operand} {b : Bool} {v : V} (hc : E c = .bool b) (h1 : b = true → (E x).sub v) (h2 : b = false → (E y).sub v) : OpS P ⟨dst, .pick c x y, ty, pos, aft, gd⟩ E H v H :=
  .quiet fun g rc w h _ => by
    have hb := (hc ▸ h c (by simp [Op.operands])).bool_eq
    refine ⟨if b then rc x else rc y, by simp [execOp, hb, asBool], ?_⟩
    cases b with
    | true => exact h1 rfl g _ (h x (by simp [Op.operands]))
    | false => exact h2 rfl g _ (h y (by simp [Op.operands]))

theorem RV.bool (g : Gh) (b : Bool) : RV g (.bool b) (.bool b) := ⟨rfl, by simp [RC, Value.cells]⟩
theorem RV.int (g : Gh) (k : IntKind) (n : Int) : RV g (.int k n) (.int k n) := ⟨rfl, by simp [RC, Value.cells]⟩
theorem RV.str (g : Gh) (s : ByteArray) : RV g (.str s) (.string s) := ⟨rfl, by simp [RC, Value.cells]⟩

/-- 'a || b', as the region computes it. -/
theorem OpS.pickOr {c x y : Operand} {b d : Bool} (hc : E c = .bool b) (hx : E x = .bool true) (hy : b = false → E y = .bool d) : OpS P ⟨dst, .pick c x y, ty, pos, aft, gd⟩ E H (.bool (b || d)) H :=
  .pick hc (fun e => by subst e; rw [hx]; exact .refl _) (fun e => by rw [hy e]; subst e; exact .refl _)
theorem OpS.pickAnd {c x y : Operand} {b d : Bool} (hc : E c = .bool b) (hx : b = true → E x = .bool d) (hy : E y = .bool false) : OpS P ⟨dst, .pick c x y, ty, pos, aft, gd⟩ E H (.bool (b && d)) H :=
  .pick hc (fun e => by rw [hx e]; subst e; exact .refl _) (fun e => by subst e; rw [hy]; exact .refl _)

theorem OpS.arith {op : BinOp} {t t' : TypeId} {x y : Operand} {k : IntKind} {a b : Int} {r : Int} (hx : E x = .int k a) (hy : E y = .int k b)
    (hr : op = .add ∧ r = k.wrap (a + b) ∨ op = .sub ∧ r = k.wrap (a - b) ∨ op = .mul ∧ r = k.wrap (a * b)) : OpS P ⟨dst, .binOp op t x y t', ty, pos, aft, gd⟩ E H (.int k r) H :=
  .quiet fun g rc w h _ => by
    have ha := (hx ▸ h x (by simp [Op.operands])).int_eq
    have hb := (hy ▸ h y (by simp [Op.operands])).int_eq
    refine ⟨.int k r, ?_, RV.int g k r⟩
    rcases hr with ⟨rfl, rfl⟩ | ⟨rfl, rfl⟩ | ⟨rfl, rfl⟩ <;> simp [execOp, ha, hb, eqGuard, binOp, Op.intArith]

theorem OpS.add {t t' : TypeId} {x y : Operand} {k : IntKind} {a b : Int} (hx : E x = .int k a) (hy : E y = .int k b) : OpS P ⟨dst, .binOp .add t x y t', ty, pos, aft, gd⟩ E H (.int k (k.wrap (a + b))) H := .arith hx hy (.inl ⟨rfl, rfl⟩)
theorem OpS.sub {t t' : TypeId} {x y : Operand} {k : IntKind} {a b : Int} (hx : E x = .int k a) (hy : E y = .int k b) : OpS P ⟨dst, .binOp .sub t x y t', ty, pos, aft, gd⟩ E H (.int k (k.wrap (a - b))) H := .arith hx hy (.inr (.inl ⟨rfl, rfl⟩))
theorem OpS.mul {t t' : TypeId} {x y : Operand} {k : IntKind} {a b : Int} (hx : E x = .int k a) (hy : E y = .int k b) : OpS P ⟨dst, .binOp .mul t x y t', ty, pos, aft, gd⟩ E H (.int k (k.wrap (a * b))) H := .arith hx hy (.inr (.inr ⟨rfl, rfl⟩))

theorem OpS.quo {t t' : TypeId} {x y : Operand} {k : IntKind} {a b : Int} (hx : E x = .int k a) (hy : E y = .int k b) (hb0 : b ≠ 0) : OpS P ⟨dst, .binOp .quo t x y t', ty, pos, aft, gd⟩ E H (.int k (k.wrap (a.tdiv b))) H :=
  .quiet fun g rc w h _ => by
    have ha := (hx ▸ h x (by simp [Op.operands])).int_eq
    have hb := (hy ▸ h y (by simp [Op.operands])).int_eq
    exact ⟨_, by simp [execOp, ha, hb, eqGuard, binOp, Op.intDiv, hb0], RV.int g k _⟩
theorem OpS.rem {t t' : TypeId} {x y : Operand} {k : IntKind} {a b : Int} (hx : E x = .int k a) (hy : E y = .int k b) (hb0 : b ≠ 0) : OpS P ⟨dst, .binOp .rem t x y t', ty, pos, aft, gd⟩ E H (.int k (a.tmod b)) H :=
  .quiet fun g rc w h _ => by
    have ha := (hx ▸ h x (by simp [Op.operands])).int_eq
    have hb := (hy ▸ h y (by simp [Op.operands])).int_eq
    exact ⟨_, by simp [execOp, ha, hb, eqGuard, binOp, Op.intDiv, hb0], RV.int g k _⟩

theorem OpS.cmp {op : BinOp} {t t' : TypeId} {x y : Operand} {k : IntKind} {a b : Int} {r : Bool} (hx : E x = .int k a) (hy : E y = .int k b)
    (hr : op = .eql ∧ r = decide (a = b) ∨ op = .neq ∧ r = (!decide (a = b)) ∨ op = .lss ∧ r = decide (a < b) ∨ op = .leq ∧ r = decide (a ≤ b) ∨ op = .gtr ∧ r = decide (b < a) ∨ op = .geq ∧ r = decide (b ≤ a)) :
    OpS P ⟨dst, .binOp op t x y t', ty, pos, aft, gd⟩ E H (.bool r) H :=
  .quiet fun g rc w h _ => by
    have ha := (hx ▸ h x (by simp [Op.operands])).int_eq
    have hb := (hy ▸ h y (by simp [Op.operands])).int_eq
    refine ⟨.bool r, ?_, RV.bool g r⟩
    rcases hr with ⟨rfl, rfl⟩ | ⟨rfl, rfl⟩ | ⟨rfl, rfl⟩ | ⟨rfl, rfl⟩ | ⟨rfl, rfl⟩ | ⟨rfl, rfl⟩ <;> simp [execOp, ha, hb, eqGuard, binOp, Op.intCmp] <;> rfl

theorem OpS.eql {t t' : TypeId} {x y : Operand} {k : IntKind} {a b : Int} (hx : E x = .int k a) (hy : E y = .int k b) : OpS P ⟨dst, .binOp .eql t x y t', ty, pos, aft, gd⟩ E H (.bool (decide (a = b))) H := .cmp hx hy (.inl ⟨rfl, rfl⟩)
theorem OpS.neq {t t' : TypeId} {x y : Operand} {k : IntKind} {a b : Int} (hx : E x = .int k a) (hy : E y = .int k b) : OpS P ⟨dst, .binOp .neq t x y t', ty, pos, aft, gd⟩ E H (.bool (!decide (a = b))) H := .cmp hx hy (.inr (.inl ⟨rfl, rfl⟩))
theorem OpS.lss {t t' : TypeId} {x y : Operand} {k : IntKind} {a b : Int} (hx : E x = .int k a) (hy : E y = .int k b) : OpS P ⟨dst, .binOp .lss t x y t', ty, pos, aft, gd⟩ E H (.bool (decide (a < b))) H := .cmp hx hy (.inr (.inr (.inl ⟨rfl, rfl⟩)))
theorem OpS.leq {t t' : TypeId} {x y : Operand} {k : IntKind} {a b : Int} (hx : E x = .int k a) (hy : E y = .int k b) : OpS P ⟨dst, .binOp .leq t x y t', ty, pos, aft, gd⟩ E H (.bool (decide (a ≤ b))) H := .cmp hx hy (.inr (.inr (.inr (.inl ⟨rfl, rfl⟩))))
theorem OpS.gtr {t t' : TypeId} {x y : Operand} {k : IntKind} {a b : Int} (hx : E x = .int k a) (hy : E y = .int k b) : OpS P ⟨dst, .binOp .gtr t x y t', ty, pos, aft, gd⟩ E H (.bool (decide (b < a))) H := .cmp hx hy (.inr (.inr (.inr (.inr (.inl ⟨rfl, rfl⟩)))))
theorem OpS.geq {t t' : TypeId} {x y : Operand} {k : IntKind} {a b : Int} (hx : E x = .int k a) (hy : E y = .int k b) : OpS P ⟨dst, .binOp .geq t x y t', ty, pos, aft, gd⟩ E H (.bool (decide (b ≤ a))) H := .cmp hx hy (.inr (.inr (.inr (.inr (.inr ⟨rfl, rfl⟩)))))

theorem OpS.not {t : TypeId} {x : Operand} {b : Bool} (hx : E x = .bool b) : OpS P ⟨dst, .unOp .not t x, ty, pos, aft, gd⟩ E H (.bool (!b)) H :=
  .quiet fun g rc w h _ => by
    have hb := (hx ▸ h x (by simp [Op.operands])).bool_eq
    exact ⟨_, by simp [execOp, hb, Op.unary], RV.bool g _⟩

theorem OpS.neg {t : TypeId} {x : Operand} {k : IntKind} {a : Int} (hx : E x = .int k a) : OpS P ⟨dst, .unOp .neg t x, ty, pos, aft, gd⟩ E H (.int k (k.wrap (0 - a))) H :=
  .quiet fun g rc w h _ => by
    have hb := (hx ▸ h x (by simp [Op.operands])).int_eq
    exact ⟨_, by simp [execOp, hb, Op.unary, Op.intArith], RV.int g k _⟩

theorem run_equalIn_bool {t : TypeId} (hu : P.underlying t = some .bool) (d : Nat) (a b : Bool) (w : World) : (Op.equalIn (d + 1) t (.bool a) (.bool b)).run P w = .ok (a == b) w := by
  simp [Op.equalIn, run_underlying hu]
theorem run_equal_bool {t : TypeId} (hu : P.underlying t = some .bool) (a b : Bool) (w : World) : (Op.equal t (.bool a) (.bool b)).run P w = .ok (a == b) w := run_equalIn_bool hu 9999 a b w
theorem run_binOp_eql_bool {t : TypeId} (hu : P.underlying t = some .bool) (a b : Bool) (w : World) : (Go.binOp .eql t (.bool a) (.bool b)).run P w = .ok (.bool (a == b)) w := by
  show (Op.equal t (.bool a) (.bool b) >>= fun x => pure (.bool x) : Sem Value).run P w = _
  rw [Sem.run_bind, run_equal_bool hu]; rfl
theorem run_binOp_neq_bool {t : TypeId} (hu : P.underlying t = some .bool) (a b : Bool) (w : World) : (Go.binOp .neq t (.bool a) (.bool b)).run P w = .ok (.bool (!(a == b))) w := by
  show (Op.equal t (.bool a) (.bool b) >>= fun x => pure (.bool !x) : Sem Value).run P w = _
  rw [Sem.run_bind, run_equal_bool hu]; rfl

theorem OpS.eqlB {t t' : TypeId} {x y : Operand} {a b : Bool} (hu : P.underlying t = some .bool) (hx : E x = .bool a) (hy : E y = .bool b) : OpS P ⟨dst, .binOp .eql t x y t', ty, pos, aft, gd⟩ E H (.bool (a == b)) H :=
  .quiet fun g rc w h _ => by
    have ha := (hx ▸ h x (by simp [Op.operands])).bool_eq
    have hb := (hy ▸ h y (by simp [Op.operands])).bool_eq
    exact ⟨.bool (a == b), by simp only [execOp, ha, hb, eqGuard, Sem.run_bind, run_binOp_eql_bool hu]; simp, RV.bool g _⟩
theorem OpS.neqB {t t' : TypeId} {x y : Operand} {a b : Bool} (hu : P.underlying t = some .bool) (hx : E x = .bool a) (hy : E y = .bool b) : OpS P ⟨dst, .binOp .neq t x y t', ty, pos, aft, gd⟩ E H (.bool (!(a == b))) H :=
  .quiet fun g rc w h _ => by
    have ha := (hx ▸ h x (by simp [Op.operands])).bool_eq
    have hb := (hy ▸ h y (by simp [Op.operands])).bool_eq
    exact ⟨.bool (!(a == b)), by simp only [execOp, ha, hb, eqGuard, Sem.run_bind, run_binOp_neq_bool hu]; simp, RV.bool g _⟩

theorem RV.str_eq {g : Gh} {s : ByteArray} {x : Value} (h : RV g (.str s) x) : x = .string s := by
  have hv2 : RC g (.str s) x.cells.toList := h.2
  simp only [RC] at hv2
  have ha : valAgg x = false := h.1.symm
  cases x <;> simp_all [Value.cells, valAgg]

theorem OpS.convInt {src d : TypeId} {x : Operand} {k k' : IntKind} {a : Int} (hs : ∃ e, P.underlying src = some e) (hd : P.underlying d = some (.int k')) (hx : E x = .int k a) : OpS P ⟨dst, .convert src d x, ty, pos, aft, gd⟩ E H (.int k' (k'.wrap a)) H :=
  .quiet fun g rc w h _ => by
    obtain ⟨e, he⟩ := hs
    have ha := (hx ▸ h x (by simp [Op.operands])).int_eq
    exact ⟨.int k' (k'.wrap a), by simp [execOp, ha, convert, run_underlying he, run_underlying hd, Conv.intToInt], RV.int g k' _⟩

theorem OpS.mkIface {t : TypeId} {x : Operand} {v : V} {d : TypeDesc} (hu : P.underlying t = some d) (hd : (match d with | .interface _ => false | _ => true) = true) (hx : E x = v) (hnt : (match v with | .tup _ => false | .undef => false | _ => true) = true) :
    OpS P ⟨dst, .makeInterface t x, ty, pos, aft, gd⟩ E H (.ifc t v) H :=
  .quiet fun g rc w h _ => by
    have hv := hx ▸ h x (by simp [Op.operands])
    have hval : v.isAgg = valAgg (rc x) ∧ RC g v (rc x).cells.toList := hv.val (fun e => by subst e; cases hnt) (fun vs e => by subst e; cases hnt)
    refine ⟨.iface t (rc x), ?_, ⟨rfl, ?_⟩⟩
    · cases d <;> first | (cases hd; done) | simp [execOp, Instr.makeInterface, run_underlying hu]
    · simp only [RC, Value.cells]
      exact ⟨rc x, rfl, hval.1, hval.2⟩

theorem OpS.extract {x : Operand} {i : Nat} {vs : List V} {v : V} (hx : E x = .tup vs) (hv : vs[i]? = some v) : OpS P ⟨dst, .extract x i, ty, pos, aft, gd⟩ E H v H :=
  .quiet fun g rc w h _ => by
    obtain ⟨xs, e, hl⟩ := hx ▸ h x (by simp [Op.operands])
    have key : ∀ (vs : List V) (l : List Value) (i : Nat), RVl g vs l → vs[i]? = some v → ∃ y, l[i]? = some y ∧ RV g v y := by
      intro vs
      induction vs with
      | nil => intro l i _ h; simp at h
      | cons a vs ih =>
        intro l i h1 h2
        simp only [RVl] at h1
        obtain ⟨y, r, rfl, q1, q2, q3⟩ := h1
        cases i with
        | zero => simp at h2; subst h2; exact ⟨y, rfl, RV.of q1 q2⟩
        | succ i => simp at h2; exact ih r i q3 h2
    obtain ⟨y, h1, h2⟩ := key vs _ i hl hv
    have h1' : xs[i]? = some y := by simpa using h1
    exact ⟨y, by simp [execOp, e, Instr.extract, h1'], h2⟩

theorem OpS.nilCheck {x : Operand} {v : V} (hx : E x = v) (hv : (match v with | .ptr _ _ _ => true | .cptr _ => true | .fn _ _ _ => true | _ => false) = true) : OpS P ⟨dst, .nilCheck x, ty, pos, aft, gd⟩ E H v H :=
  .quiet fun g rc w h _ => by
    have hr := hx ▸ h x (by simp [Op.operands])
    refine ⟨rc x, ?_, hr⟩
    have hval : v.isAgg = valAgg (rc x) ∧ RC g v (rc x).cells.toList := hr.val (fun e => by subst e; cases hv) (fun vs e => by subst e; cases hv)
    obtain ⟨ha, hc⟩ := hval
    cases v <;> simp only [Bool.false_eq_true] at hv
    · simp only [RC] at hc
      obtain ⟨p, h1, h2⟩ := hc
      have : ∃ ad, rc x = .pointer (some ad) := by
        cases hq : rc x <;> simp_all [Value.cells, valAgg, V.isAgg]
      obtain ⟨ad, this⟩ := this
      simp [execOp, this]
    · simp only [RC] at hc
      obtain ⟨a, c, h1, h2, h3⟩ := hc
      have : rc x = .pointer (some a) := by
        cases hq : rc x <;> simp_all [Value.cells, valAgg, V.isAgg]
      simp [execOp, this]
    · simp only [RC] at hc
      obtain ⟨a, b, h1, h2⟩ := hc
      have : ∃ f, rc x = .func (.func f) a b := by
        cases hq : rc x <;> simp_all [Value.cells, valAgg, V.isAgg]
      obtain ⟨f, this⟩ := this
      simp [execOp, this]

end

end Go.Av
