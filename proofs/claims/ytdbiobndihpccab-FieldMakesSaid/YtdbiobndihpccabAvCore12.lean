/- The rules in the form in which a walk is written. -/
import Derived.Test.YtdbiobndihpccabAvCore11
namespace Go.Av
set_option linter.unusedVariables false
set_option linter.unusedSimpArgs false

theorem lk {env : List (Nat × V)} {t : Nat} {v : V} {e : List (Nat × V)} (k : Nat) (h : env.drop k = (t, v) :: e) (hn : (env.take k).all (fun p => !Nat.beq t p.1) = true) : look env t = v := by
  induction k generalizing env with
  | zero => simp at h; subst h; rw [look_cons]; simp
  | succ k ih =>
    cases env with
    | nil => simp at h
    | cons p env =>
      obtain ⟨t', u⟩ := p
      simp only [List.take_succ_cons, List.all_cons, Bool.and_eq_true, Bool.not_eq_true'] at hn
      rw [look_cons, if_neg (fun e => by subst e; simp at hn)]
      exact ih (by simpa using h) hn.2

theorem wrap_id {a : Int} (h : -9223372036854775808 ≤ a) (h2 : a ≤ 9223372036854775807) : IntKind.i64.wrap a = a := by
  have e : IntKind.i64.wrap a = if a % 18446744073709551616 ≥ 9223372036854775808 then a % 18446744073709551616 - 18446744073709551616 else a % 18446744073709551616 := by
    simp [IntKind.wrap, IntKind.bits, IntKind.signed]
  rw [e]
  split <;> omega

theorem map_get {α : Type} (f : α → V) (d : α) {l : List α} {i : Nat} (h : i < l.length) : (l.map f)[((i : Nat) : Int).toNat]? = some (f (l.getD i d)) := by
  simp [List.getD, h]

theorem at_arr {e k : Nat} {vs : List V} {u : V} (h : vs[k]? = some u) : (V.arr e vs).at [k] = some u := by simp [V.at, h]
theorem at_map {α : Type} {e : Nat} (f : α → V) (d : α) {l : List α} {i : Nat} (h : i < l.length) : (V.arr e (l.map f)).at [i] = some (f (l.getD i d)) := at_arr (by simp [List.getD, h])

theorem ltL_append {m : Nat} : ∀ (a b : List V), V.ltL m (a ++ b) = (V.ltL m a && V.ltL m b)
  | [], b => by simp [V.ltL]
  | x :: a, b => by simp [V.ltL, ltL_append a b, Bool.and_assoc]
theorem ltL_map {α : Type} {f : α → V} {m : Nat} (h : ∀ x, (f x).lt m = true) : ∀ (l : List α), V.ltL m (l.map f) = true
  | [] => rfl
  | x :: l => by simp [V.ltL, h x, ltL_map h l]

@[simp] theorem ltL_ints {m : Nat} {k : IntKind} (l : List Int) : V.ltL m (l.map (V.int k)) = true := ltL_map (fun _ => rfl) l
@[simp] theorem lt_int {m : Nat} {k : IntKind} {n : Int} : (V.int k n).lt m = true := rfl
@[simp] theorem lt_bool {m : Nat} {b : Bool} : (V.bool b).lt m = true := rfl
@[simp] theorem lt_str {m : Nat} {b : ByteArray} : (V.str b).lt m = true := rfl

theorem cI {env : List (Nat × V)} {k : IntKind} {n : Int} : ev env (.const (.int k n)) = .int k n := rfl
theorem cB {env : List (Nat × V)} {b : Bool} : ev env (.const (.bool b)) = .bool b := rfl
theorem cS {env : List (Nat × V)} {s : ByteArray} : ev env (.const (.string s)) = .str s := rfl
theorem cF {env : List (Nat × V)} {f : FuncId} : ev env (.func f) = .fn f [] [] := rfl
theorem cNs {env : List (Nat × V)} : ev env (.const (.slice none 0 0)) = .nils := rfl
theorem cNp {env : List (Nat × V)} : ev env (.const (.pointer none)) = .nilp := rfl
theorem cNf {env : List (Nat × V)} : ev env (.const .nilFunc) = .nilfn := rfl
theorem cNi {env : List (Nat × V)} : ev env (.const .nilIface) = .nili := rfl

/-- The steps that are left of a region, and what is to hold behind them. -/
def Run (F : List AObj → Prop) (draw : Bool) (P : Program) (ops : Array Oper) (n : Nat) (ord : List Nat) (l : List Nat) (acc : List Kd) (Q : AEx → St → Prop) (s : St) : Prop :=
  F s.H → ∃ s' ks, Steps P ops n F l s ks s' ∧ (draw = false ∨ dOK ops ord (acc.reverse ++ ks) = true) ∧ Q .normal s'

section
variable {F : List AObj → Prop} {draw : Bool} {P : Program} {ops : Array Oper} {n i : Nat} {ord l : List Nat} {acc : List Kd} {Q : AEx → St → Prop} {s : St} {o : Oper} {v : V} {E : List (Nat × V)} {H : List AObj}

theorem Run.cons {k : Kd} {s₁ : St} (ho : ops[i]? = some o) (h : Stp P ops n o F s k v s₁) (hF : F s.H → F s₁.H) (t : Run F draw P ops n ord l (k :: acc) Q s₁) : Run F draw P ops n ord (i :: l) acc Q s := by
  intro hF0
  obtain ⟨s', ks, h1, h2, h3⟩ := t (hF hF0)
  exact ⟨s', k :: ks, .cons ho hF0 h h1, by simpa using h2, h3⟩

theorem S.nil (h : Q .normal s) : Run F false P ops n ord [] acc Q s := fun hF => ⟨s, [], .nil s hF, .inl rfl, h⟩
theorem S.nilD (hd : dOK ops ord acc.reverse = true) (h : Q .normal s) : Run F true P ops n ord [] acc Q s := fun hF => ⟨s, [], .nil s hF, .inr (by simpa using hd), h⟩
/-- A destination, by its number. -/
def dstIs (n d : Nat) (o : Oper) : Bool := match o.dst, o.guard with | some e, none => e == d && decide (d < n) | _, _ => false
def dstNo (o : Oper) : Bool := match o.dst, o.guard with | none, none => true | _, _ => false
def dstG (n d j : Nat) (want : Bool) (o : Oper) : Bool := match o.dst, o.guard with | some e, some (k, w) => e == d && decide (d < n) && k == j && w == want | _, _ => false
theorem dstIs_get {d : Nat} (h : dstIs n d o = true) : o.dst = some d ∧ o.guard = none ∧ okDst n o.dst = true := by
  unfold dstIs at h
  split at h
  · rename_i h1 h2
    simp only [Bool.and_eq_true, beq_iff_eq, decide_eq_true_eq] at h
    obtain ⟨rfl, hd⟩ := h
    exact ⟨h1, h2, by rw [h1]; simpa [okDst] using hd⟩
  · cases h
theorem dstNo_get (h : dstNo o = true) : o.dst = none ∧ o.guard = none ∧ okDst n o.dst = true := by
  unfold dstNo at h
  split at h
  · rename_i h1 h2
    exact ⟨h1, h2, by rw [h1]; rfl⟩
  · cases h
theorem dstG_get {d j : Nat} {want : Bool} (h : dstG n d j want o = true) : o.dst = some d ∧ o.guard = some (j, want) ∧ okDst n o.dst = true := by
  unfold dstG at h
  split at h
  · rename_i h1 h2
    simp only [Bool.and_eq_true, beq_iff_eq, decide_eq_true_eq] at h
    obtain ⟨⟨⟨rfl, hd⟩, rfl⟩, rfl⟩ := h
    exact ⟨h1, h2, by rw [h1]; simpa [okDst] using hd⟩
  · cases h

theorem S.sil (d : Nat) (ho : ops[i]? = some o) (hd : dstIs n d o = true) (h : ∀ H, F H → OpS P o (ev E) H v H) (t : Run F draw P ops n ord l (.sil :: acc) Q ⟨(d, v) :: E, H⟩) : Run F draw P ops n ord (i :: l) acc Q ⟨E, H⟩ := by
  obtain ⟨h1, h2, h3⟩ := dstIs_get hd
  have := Run.cons (F := F) (acc := acc) (Q := Q) (draw := draw) (ord := ord) (l := l) ho (.sil ⟨E, H⟩ v h2 h3 h) id
  rw [h1] at this
  exact this t
theorem S.silN (ho : ops[i]? = some o) (hd : dstNo o = true) (h : ∀ H, F H → OpS P o (ev E) H v H) (t : Run F draw P ops n ord l (.sil :: acc) Q ⟨E, H⟩) : Run F draw P ops n ord (i :: l) acc Q ⟨E, H⟩ := by
  obtain ⟨h1, h2, h3⟩ := dstNo_get (n := n) hd
  have := Run.cons (F := F) (acc := acc) (Q := Q) (draw := draw) (ord := ord) (l := l) ho (.sil ⟨E, H⟩ v h2 h3 h) id
  rw [h1] at this
  exact this t
theorem S.qui (d : Nat) (ho : ops[i]? = some o) (hd : dstIs n d o = true) (h : ∀ X, OpS P o (ev E) (H ++ X) v (H ++ X)) (t : Run F draw P ops n ord l (.qui :: acc) Q ⟨(d, v) :: E, H⟩) : Run F draw P ops n ord (i :: l) acc Q ⟨E, H⟩ := by
  obtain ⟨h1, h2, h3⟩ := dstIs_get hd
  have := Run.cons (F := F) (acc := acc) (Q := Q) (draw := draw) (ord := ord) (l := l) ho (.qui ⟨E, H⟩ v h2 h3 h) id
  rw [h1] at this
  exact this t
theorem S.quiN (ho : ops[i]? = some o) (hd : dstNo o = true) (h : ∀ X, OpS P o (ev E) (H ++ X) v (H ++ X)) (t : Run F draw P ops n ord l (.qui :: acc) Q ⟨E, H⟩) : Run F draw P ops n ord (i :: l) acc Q ⟨E, H⟩ := by
  obtain ⟨h1, h2, h3⟩ := dstNo_get (n := n) hd
  have := Run.cons (F := F) (acc := acc) (Q := Q) (draw := draw) (ord := ord) (l := l) ho (.qui ⟨E, H⟩ v h2 h3 h) id
  rw [h1] at this
  exact this t
theorem S.new {obs : List AObj} (d : Nat) (ho : ops[i]? = some o) (hd : dstIs n d o = true) (h : OpS P o (ev E) H v (H ++ obs)) (hF : F (H ++ obs)) (t : Run F draw P ops n ord l (.new :: acc) Q ⟨(d, v) :: E, H ++ obs⟩) : Run F draw P ops n ord (i :: l) acc Q ⟨E, H⟩ := by
  obtain ⟨h1, h2, h3⟩ := dstIs_get hd
  have := Run.cons (F := F) (acc := acc) (Q := Q) (draw := draw) (ord := ord) (l := l) ho (.new ⟨E, H⟩ v obs h2 h3 h) (fun _ => hF)
  rw [h1] at this
  exact this t
theorem S.newN {obs : List AObj} (ho : ops[i]? = some o) (hd : dstNo o = true) (h : OpS P o (ev E) H v (H ++ obs)) (hF : F (H ++ obs)) (t : Run F draw P ops n ord l (.new :: acc) Q ⟨E, H ++ obs⟩) : Run F draw P ops n ord (i :: l) acc Q ⟨E, H⟩ := by
  obtain ⟨h1, h2, h3⟩ := dstNo_get (n := n) hd
  have := Run.cons (F := F) (acc := acc) (Q := Q) (draw := draw) (ord := ord) (l := l) ho (.new ⟨E, H⟩ v obs h2 h3 h) (fun _ => hF)
  rw [h1] at this
  exact this t
theorem S.eff {H' : List AObj} (d : Nat) (ho : ops[i]? = some o) (hd : dstIs n d o = true) (h : OpS P o (ev E) H v H') (hF : F H') (t : Run F draw P ops n ord l (.eff :: acc) Q ⟨(d, v) :: E, H'⟩) : Run F draw P ops n ord (i :: l) acc Q ⟨E, H⟩ := by
  obtain ⟨h1, h2, h3⟩ := dstIs_get hd
  have := Run.cons (F := F) (acc := acc) (Q := Q) (draw := draw) (ord := ord) (l := l) ho (.eff ⟨E, H⟩ v H' h2 h3 h) (fun _ => hF)
  rw [h1] at this
  exact this t
theorem S.effN {H' : List AObj} (ho : ops[i]? = some o) (hd : dstNo o = true) (h : OpS P o (ev E) H v H') (hF : F H') (t : Run F draw P ops n ord l (.eff :: acc) Q ⟨E, H'⟩) : Run F draw P ops n ord (i :: l) acc Q ⟨E, H⟩ := by
  obtain ⟨h1, h2, h3⟩ := dstNo_get (n := n) hd
  have := Run.cons (F := F) (acc := acc) (Q := Q) (draw := draw) (ord := ord) (l := l) ho (.eff ⟨E, H⟩ v H' h2 h3 h) (fun _ => hF)
  rw [h1] at this
  exact this t
theorem ifT {c : Prop} [Decidable c] {u v w : V} (h : c) (hx : u = if c then v else w) : u = v := by rw [hx, if_pos h]

theorem S.gsil (d j d' : Nat) (want : Bool) {b : Bool} (ho : ops[i]? = some o) (hd : dstG n d j want o = true) (hj : guardDst ops j = some d') (hb : look E d' = .bool b)
    (h : b = want → ∀ H, F H → OpS P o (ev E) H v H) (t : Run F draw P ops n ord l (.sil :: acc) Q ⟨(d, if b = want then v else .tup []) :: E, H⟩) : Run F draw P ops n ord (i :: l) acc Q ⟨E, H⟩ := by
  obtain ⟨h1, hg, h3⟩ := dstG_get hd
  have := Run.cons (F := F) (acc := acc) (Q := Q) (draw := draw) (ord := ord) (l := l) ho
    (.gsil ⟨E, H⟩ v j d' want (b = want) hg hj (fun e => by rw [hb, e]) (fun e => .inl (by rw [hb]; cases b <;> cases want <;> first | rfl | exact absurd rfl e)) h3 h) id
  rw [h1] at this
  exact this t
theorem S.gqui (d j d' : Nat) (want : Bool) {b : Bool} (ho : ops[i]? = some o) (hd : dstG n d j want o = true) (hj : guardDst ops j = some d') (hb : look E d' = .bool b)
    (h : b = want → ∀ X, OpS P o (ev E) (H ++ X) v (H ++ X)) (t : Run F draw P ops n ord l (.qui :: acc) Q ⟨(d, if b = want then v else .tup []) :: E, H⟩) : Run F draw P ops n ord (i :: l) acc Q ⟨E, H⟩ := by
  obtain ⟨h1, hg, h3⟩ := dstG_get hd
  have := Run.cons (F := F) (acc := acc) (Q := Q) (draw := draw) (ord := ord) (l := l) ho
    (.gqui ⟨E, H⟩ v j d' want (b = want) hg hj (fun e => by rw [hb, e]) (fun e => .inl (by rw [hb]; cases b <;> cases want <;> first | rfl | exact absurd rfl e)) h3 h) id
  rw [h1] at this
  exact this t
/-- A guard inside a guard. -/
theorem S.gsil2 (d j d' : Nat) (want : Bool) {b : Bool} {c : Prop} [Decidable c] (ho : ops[i]? = some o) (hd : dstG n d j want o = true) (hj : guardDst ops j = some d') (hb : look E d' = if c then .bool b else .tup [])
    (h : c ∧ b = want → ∀ H, F H → OpS P o (ev E) H v H) (t : Run F draw P ops n ord l (.sil :: acc) Q ⟨(d, if c ∧ b = want then v else .tup []) :: E, H⟩) : Run F draw P ops n ord (i :: l) acc Q ⟨E, H⟩ := by
  obtain ⟨h1, hg, h3⟩ := dstG_get hd
  have := Run.cons (F := F) (acc := acc) (Q := Q) (draw := draw) (ord := ord) (l := l) ho
    (.gsil ⟨E, H⟩ v j d' want (c ∧ b = want) hg hj (fun e => by rw [hb, if_pos e.1, e.2])
    (fun e => by
      by_cases hc : c
      · exact .inl (by rw [hb, if_pos hc]; cases b <;> cases want <;> first | rfl | exact absurd ⟨hc, rfl⟩ e)
      · exact .inr (by rw [hb, if_neg hc])) h3 h) id
  rw [h1] at this
  exact this t
theorem S.gqui2 (d j d' : Nat) (want : Bool) {b : Bool} {c : Prop} [Decidable c] (ho : ops[i]? = some o) (hd : dstG n d j want o = true) (hj : guardDst ops j = some d') (hb : look E d' = if c then .bool b else .tup [])
    (h : c ∧ b = want → ∀ X, OpS P o (ev E) (H ++ X) v (H ++ X)) (t : Run F draw P ops n ord l (.qui :: acc) Q ⟨(d, if c ∧ b = want then v else .tup []) :: E, H⟩) : Run F draw P ops n ord (i :: l) acc Q ⟨E, H⟩ := by
  obtain ⟨h1, hg, h3⟩ := dstG_get hd
  have := Run.cons (F := F) (acc := acc) (Q := Q) (draw := draw) (ord := ord) (l := l) ho
    (.gqui ⟨E, H⟩ v j d' want (c ∧ b = want) hg hj (fun e => by rw [hb, if_pos e.1, e.2])
    (fun e => by
      by_cases hc : c
      · exact .inl (by rw [hb, if_pos hc]; cases b <;> cases want <;> first | rfl | exact absurd ⟨hc, rfl⟩ e)
      · exact .inr (by rw [hb, if_neg hc])) h3 h) id
  rw [h1] at this
  exact this t
end

section
variable {P : Program} {n m : Nat} {Q : AEx → St → Prop} {s s' : St}

theorem W.reg {id : Nat} {ops : Array Oper} (l : List Nat) (hl : List.range ops.size = l) (h : Run (fun _ => True) false P ops n [] l [] Q s) : AWp P n m (.region id ops false) Q s := by
  subst hl
  obtain ⟨s', ks, h1, _, h3⟩ := h trivial
  exact .region h1 h3
theorem W.regD {id : Nat} {ops : Array Oper} (ord : List Nat) (hm : P.follows .mixedOrders = true) (h : Run (fun _ => True) true P ops n ord ord [] Q s) : AWp P n m (.region id ops true) Q s := by
  obtain ⟨s', ks, h1, h2, h3⟩ := h trivial
  exact .regionD hm ord h1 (by simpa using h2.resolve_left (by simp)) h3
theorem W.regF {id : Nat} {ops : Array Oper} (F : List AObj → Prop) (hF : F s.H) (ord : List Nat) (hm : P.follows .mixedOrders = true) (h : Run F true P ops n ord ord [] Q s) : AWp P n m (.region id ops true) Q s := by
  obtain ⟨s', ks, h1, h2, h3⟩ := h hF
  exact .regionD hm ord h1 (by simpa using h2.resolve_left (by simp)) h3

theorem end1 {fn : Func} {t : Tmp} {r v : V} (hr : fn.results = #[.tmp t]) (hv : look s.env t = v) (hk : okV v = true) (hl : v.lt 0 = true) (he : v = r) : endQ P fn n 0 (fun o _ => o = .ret r) .ret s :=
  ⟨v, .one hr (.tmp hv hk), hl, rfl, by rw [he]⟩
theorem endN {fn : Func} {rs : List ResultVar} {vs : List V} {r : V} (hr : fn.results.toList = rs) (h : ResL P s rs vs) (h1 : (vs.length == 1) = false) (hl : V.ltL 0 vs = true) (he : V.tup vs = r) : endQ P fn n 0 (fun o _ => o = .ret r) .ret s :=
  ⟨.tup vs, .many hr h (by simpa using h1), by simpa only [V.lt] using hl, rfl, by rw [he]⟩
theorem end1c {fn : Func} {a : Tmp} {ty : TypeId} {r v : V} (hr : fn.results = #[.cell a ty]) (h : ResV P s (.cell a ty) v) (hl : v.lt 0 = true) (he : v = r) : endQ P fn n 0 (fun o _ => o = .ret r) .ret s :=
  ⟨v, .one hr h, hl, rfl, by rw [he]⟩

end

/-- The arguments of a call, one by one. -/
theorem SubL.c {u v v' : V} {us vs : List V} (hx : u = v) (h : v.sub v') (t : SubL us vs) : SubL (u :: us) (v' :: vs) := by subst hx; exact .cons h t

theorem OpS.callQ {P : Program} {E : Operand → V} {H : List AObj} {dst : Option Tmp} {ty : TypeId} {pos : String} {aft : Array Edge} {gd : Option (Nat × Bool)} {x : Operand} {args : Array Operand} {ats : Array TypeId} {f : FuncId} {first cap args' : List V} {v : V}
    (hE : enters P f = true) (hx : E x = .fn f first cap) (ha : SubL (first ++ args.toList.map E ++ cap) args') (hs : PureC P f args' v) : OpS P ⟨dst, .call ⟨.value x, args, ats⟩, ty, pos, aft, gd⟩ E H v H := .callP hE hx hs ha

section
variable {P : Program} {E : Operand → V} {H : List AObj} {dst : Option Tmp} {ty : TypeId} {pos : String} {aft : Array Edge} {gd : Option (Nat × Bool)}

/-- The values of operands, one by one. -/
inductive ValsL (E : Operand → V) (e : Nat) : List (Nat × Operand) → Nat → List V → Prop where
  | nil {k : Nat} : ValsL E e [] k []
  | cons {k : Nat} {x : Operand} {u : V} {ps : List (Nat × Operand)} {us : List V} (hx : E x = u) (hk : okV u = true) (hn : flen u = e) (t : ValsL E e ps (k + 1) us) : ValsL E e ((k, x) :: ps) k (u :: us)

theorem ValsL.spec {e : Nat} {ps : List (Nat × Operand)} {k : Nat} {us : List V} (h : ValsL E e ps k us) : (ps.map fun p => (p.1, E p.2)) = seqParts k us ∧ ∀ v ∈ us, okV v = true ∧ flen v = e := by
  induction h with
  | nil => exact ⟨rfl, fun v h => by cases h⟩
  | cons hx hk hn _ ih =>
    refine ⟨by simp [seqParts, hx, ih.1], fun v hv => ?_⟩
    rcases List.mem_cons.1 hv with rfl | hv
    · exact ⟨hk, hn⟩
    · exact ih.2 v hv

theorem OpS.buildSliceL {t et : TypeId} {len : Nat} {parts : Array (Nat × Operand)} {e by_ : Nat} {b : Bool} {z : V} {vs : List V} (hl : sliOf P t = some (et, e, b, by_)) (hz : ZeroV P et z) (hze : flen z = e) (hlen : vs.length = len) (hsm : len * e ≤ 2 ^ 24)
    (hp : ValsL E e parts.toList 0 vs) : OpS P ⟨dst, .buildSlice t len parts, ty, pos, aft, gd⟩ E H (.sl e .exact vs) H :=
  .buildSlice hl hz hze hlen hsm hp.spec.1 hp.spec.2

/-- A literal's parts put into the zero value, one by one. -/
inductive FillL (E : Operand → V) (place : Nat → Option (Nat × Nat)) : V → List (Nat × Operand) → V → Prop where
  | nil {z : V} : FillL E place z [] z
  | cons {i : Nat} {x : Operand} {u z r : V} {ps : List (Nat × Operand)} (hx : E x = u) (hk : okV u = true)
      (hp : ((place i == some (z.offOf [i] 0, flen ((z.at [i]).getD .undef))) && (z.at [i]).isSome) = true) (hn : flen u = flen ((z.at [i]).getD .undef)) (t : FillL E place (z.setAt [i] u) ps r) : FillL E place z ((i, x) :: ps) r

theorem FillL.spec {place : Nat → Option (Nat × Nat)} {z r : V} {ps : List (Nat × Operand)} (h : FillL E place z ps r) : fillOK place z (ps.map fun p => (p.1, E p.2)) ∧ setParts z (ps.map fun p => (p.1, E p.2)) = r := by
  induction h with
  | nil => exact ⟨trivial, rfl⟩
  | @cons i x u z r ps hx hk hp hn _ ih =>
    simp only [Bool.and_eq_true, beq_iff_eq] at hp
    obtain ⟨h1, h2⟩ := hp
    obtain ⟨w, hw⟩ := Option.isSome_iff_exists.1 h2
    rw [hw] at h1 hn
    refine ⟨?_, by simpa [setParts, hx] using ih.2⟩
    simp only [List.map_cons, fillOK, hx]
    exact ⟨hk, ⟨_, _, w, h1, hw, rfl, rfl, hn⟩, ih.1⟩

theorem OpS.buildStL {t : TypeId} {parts : Array (Nat × Operand)} {l : List (Nat × Nat × Bool)} {z v w : V} (hl : layOf P t = some l) (hz : ZeroV P t z) (hp : FillL E (placeSt l) z parts.toList v) (he : v = w) (ha : w.isAgg = true) :
    OpS P ⟨dst, .build t parts, ty, pos, aft, gd⟩ E H w H := by subst he; exact .buildSt hl hz hp.spec.1 hp.spec.2 ha
theorem OpS.buildArrL {t : TypeId} {parts : Array (Nat × Operand)} {len e : Nat} {b : Bool} {z v w : V} (hl : arrOf P t = some (len, e, b)) (hz : ZeroV P t z) (hp : FillL E (fun i => some (i * e, e)) z parts.toList v) (he : v = w) (ha : w.isAgg = true) :
    OpS P ⟨dst, .build t parts, ty, pos, aft, gd⟩ E H w H := by subst he; exact .buildArr hl hz hp.spec.1 hp.spec.2 ha

theorem mapE1 {a : Operand} {x : V} (h : E a = x) : #[a].toList.map E = [x] := by simp [h]
theorem mapE2 {a b : Operand} {x y : V} (h : E a = x) (k : E b = y) : #[a, b].toList.map E = [x, y] := by simp [h, k]
theorem mapE3 {a b c : Operand} {x y z : V} (h : E a = x) (k : E b = y) (l : E c = z) : #[a, b, c].toList.map E = [x, y, z] := by simp [h, k, l]
theorem mapE4 {a b c d : Operand} {x y z u : V} (h : E a = x) (k : E b = y) (l : E c = z) (o : E d = u) : #[a, b, c, d].toList.map E = [x, y, z, u] := by simp [h, k, l, o]
end

theorem OpS.nf {P : Program} {o : Oper} {E : Operand → V} {H H' H2 : List AObj} {v v2 : V} (h : OpS P o E H v H') (hv : v = v2) (hH : H' = H2) : OpS P o E H v2 H2 := by subst hv; subst hH; exact h
theorem OpS.nv {P : Program} {o : Oper} {E : Operand → V} {H H' : List AObj} {v v2 : V} (h : OpS P o E H v H') (hv : v = v2) : OpS P o E H v2 H' := by subst hv; exact h
theorem V.setAt_nil (v u : V) : v.setAt [] u = u := by cases v <;> rfl
theorem V.setAt_st (vs : List V) (k : Nat) (p : List Nat) (u : V) : (V.st vs).setAt (k :: p) u = .st (vs.set k ((vs.getD k .undef).setAt p u)) := rfl
theorem V.setAt_arr (e : Nat) (vs : List V) (k : Nat) (p : List Nat) (u : V) : (V.arr e vs).setAt (k :: p) u = .arr e (vs.set k ((vs.getD k .undef).setAt p u)) := rfl
theorem map_set' {α : Type} (f : α → V) (l : List α) (k : Nat) (x : α) : (l.map f).set k (f x) = (l.set k x).map f := List.map_set.symm

/-- An environment against the one that is wanted. -/
inductive EnvS (env : List (Nat × V)) : List (Nat × V) → Prop where
  | nil : EnvS env []
  | cons {t : Nat} {v v' : V} {r : List (Nat × V)} (h : look env t = v) (hs : v.sub v') (k : EnvS env r) : EnvS env ((t, v') :: r)

theorem EnvS.eq {env : List (Nat × V)} {t : Nat} {v v' : V} {r : List (Nat × V)} (h : look env t = v) (he : v = v') (k : EnvS env r) : EnvS env ((t, v') :: r) := .cons h (by rw [he]; exact .refl _) k

theorem EnvS.sub {env env' : List (Nat × V)} (h : EnvS env env') : EnvSub env env' := by
  induction h with
  | nil => exact fun _ => .undef _
  | cons h hs _ ih =>
    intro t
    rw [look_cons]
    split
    · rename_i e; subst e; rw [h]; exact hs
    · exact ih t

theorem Wk.to {n m : Nat} {env env' : List (Nat × V)} {H H' : List AObj} (k : Nat) (hm : m ≤ k) (hH : H.take k = H') (he : EnvS env env') (hl : envLt k env' = true) (ho : objsLt k H' = true) : Wk n m ⟨env, H⟩ ⟨env', H'⟩ := by
  subst hH
  exact (Wk.keep he.sub).trans (.trunc k hm hl ho)

theorem AWp.prune {P : Program} {n m : Nat} {Q : AEx → St → Prop} {env env' : List (Nat × V)} {H : List AObj} {c : Code} (k : EnvS env env') (h : AWp P n m c Q ⟨env', H⟩) : AWp P n m c Q ⟨env, H⟩ := .wk (.keep k.sub) h
end Go.Av
