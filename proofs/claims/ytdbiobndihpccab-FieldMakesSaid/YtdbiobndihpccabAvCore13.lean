/- '==' of structs and arrays over abstract values. -/
import Derived.Test.YtdbiobndihpccabAvCore12
import Derived.Laws.StructEq
import Derived.ChangeKeysEq
namespace Go.Av
set_option linter.unusedVariables false
set_option linter.unusedSimpArgs false

inductive Sh where
  | int (k : IntKind)
  | bool
  | str
  | st (fs : List (Nat × Sh)) (n : Nat)
  | arr (n e : Nat) (s : Sh)
  deriving Inhabited

def shOf (P : Program) : Nat → TypeId → Option Sh
  | 0, _ => none
  | d + 1, t => match P.underlying t with
    | some (.int k) => some (.int k)
    | some .bool => some .bool
    | some .string => some .str
    | some (.struct fs) => if P.stoodInHeld t then none else
        match (fs.toList.mapM fun f => if f.name = "_" then none else (shOf P d f.type).map fun s => (f.offset, s)), szOf P t with
        | some l, some n => some (.st l n)
        | _, _ => none
    | some (.array n e) => match shOf P d e, szOf P e, szOf P t with
      | some s, some i, some j => if j = n * i then some (.arr n i s) else none
      | _, _, _ => none
    | _ => none

mutual
def hasSh : Sh → V → Bool
  | .int k, .int k' _ => decide (k = k')
  | .bool, .bool _ => true
  | .str, .str _ => true
  | .st fs n, .st vs => decide (flenL vs = n) && hasShF 0 fs vs
  | .arr n e s, .arr e' vs => decide (e' = e) && decide (vs.length = n) && hasShA s vs
  | _, _ => false
def hasShF : Nat → List (Nat × Sh) → List V → Bool
  | _, [], [] => true
  | acc, (off, s) :: fs, v :: vs => decide (off = acc) && hasSh s v && hasShF (acc + flen v) fs vs
  | _, _, _ => false
def hasShA : Sh → List V → Bool
  | _, [] => true
  | s, v :: vs => hasSh s v && hasShA s vs
end

mutual
def eqV : V → V → Bool
  | .int k a, .int k' b => decide (k = k') && decide (a = b)
  | .bool a, .bool b => a == b
  | .str a, .str b => a == b
  | .st xs, .st ys => eqVL xs ys
  | .arr _ xs, .arr _ ys => eqVL xs ys
  | _, _ => false
def eqVL : List V → List V → Bool
  | [], [] => true
  | x :: xs, y :: ys => eqV x y && eqVL xs ys
  | _, _ => false
end

theorem hasSh_agg {s : Sh} {x y : V} (hx : hasSh s x = true) (hy : hasSh s y = true) : x.isAgg = y.isAgg := by
  cases s <;> cases x <;> simp only [hasSh, Bool.false_eq_true] at hx <;> cases y <;> simp only [hasSh, Bool.false_eq_true] at hy <;> rfl

theorem shOf_agg {P : Program} {d : Nat} {t : TypeId} {s : Sh} (h : shOf P d t = some s) {x : V} (hx : hasSh s x = true) : aggOf P t = some x.isAgg ∧ (x.isAgg = true → szOf P t = some (flen x)) := by
  cases d with
  | zero => simp [shOf] at h
  | succ d =>
    unfold shOf at h
    unfold aggOf
    split at h
    · rename_i k hu; rw [hu]; cases h; cases x <;> simp_all [hasSh, descAgg, V.isAgg]
    · rename_i hu; rw [hu]; cases h; cases x <;> simp_all [hasSh, descAgg, V.isAgg]
    · rename_i hu; rw [hu]; cases h; cases x <;> simp_all [hasSh, descAgg, V.isAgg]
    · rename_i fs hu
      split at h
      · cases h
      · split at h
        · rename_i l n hl hn
          cases h
          rw [hu]
          cases x <;> simp [hasSh] at hx
          exact ⟨rfl, fun _ => by rw [hn, flen, hx.1]⟩
        · cases h
    · rename_i n e hu
      split at h
      · rename_i s' i j hs hi hj
        split at h
        · rename_i hji
          cases h
          rw [hu]
          cases x <;> simp [hasSh] at hx
          exact ⟨rfl, fun _ => by rw [hj, flen, hx.1.2, hx.1.1, hji]⟩
        · cases h
      · cases h
    · cases h

/-- A part, of the size that its type has. -/
theorem run_part_sh {P : Program} {t : TypeId} {pre c post : List Value} {cs : Array Value} {off : Nat} {x : V} {g : Gh} (hc : cs.toList = pre ++ c ++ post) (hp : pre.length = off) (hx : RC g x c)
    (ha : aggOf P t = some x.isAgg) (hs : x.isAgg = true → szOf P t = some (flen x)) (w : World) : (part t cs off).run P w = .ok (mkVal x.isAgg c) w := by
  cases hb : x.isAgg with
  | true => exact hb ▸ run_part hc hp hx.len (hs hb) ha (fun e => by rw [hb] at e; cases e) w
  | false =>
    have hl : c.length = 1 := by rw [hx.len, flen_leaf hb]
    rw [hb] at ha
    unfold part
    rw [Sem.run_bind, run_isAgg' ha]
    cases c with
    | nil => simp at hl
    | cons y r =>
      have : cs[off]? = some y := by
        have : cs.toList[off]? = some y := by
          rw [hc, ← hp, List.append_assoc, List.getElem?_append_right (Nat.le_refl _)]
          simp
        simpa using this
      simp [mkVal, this]

theorem mkVal_agg (c : List Value) : mkVal true c = .agg c.toArray := rfl

theorem mkVal_one (x : Value) : mkVal false [x] = x := rfl

theorem run_equal_sh {P : Program} : ∀ (d : Nat) (t : TypeId) (s : Sh), shOf P d t = some s → ∀ (x y : V) (g : Gh) (cx cy : List Value) (w : World) (dd : Nat), hasSh s x = true → hasSh s y = true → RC g x cx → RC g y cy →
    (Op.equalIn (dd + d) t (mkVal x.isAgg cx) (mkVal y.isAgg cy)).run P w = .ok (eqV x y) w
  | 0, t, s, h => by simp [shOf] at h
  | d + 1, t, s, h => by
    intro x y g cx cy w dd hx hy rx ry
    have IH := fun t s h => run_equal_sh (P := P) d t s h
    unfold shOf at h
    split at h
    · rename_i k hu
      cases h
      cases x <;> simp only [hasSh, Bool.false_eq_true, decide_eq_true_eq] at hx
      cases y <;> simp only [hasSh, Bool.false_eq_true, decide_eq_true_eq] at hy
      subst hx; subst hy
      simp only [RC] at rx ry
      subst rx; subst ry
      simp only [V.isAgg, mkVal_one, eqV]
      rw [show dd + (d + 1) = (dd + d) + 1 from rfl, run_equalIn_int w _ t _ _ _ _ hu]
      simp only [decide_true, Bool.true_and]
      rfl
    · rename_i hu
      cases h
      cases x <;> simp only [hasSh, Bool.false_eq_true] at hx
      cases y <;> simp only [hasSh, Bool.false_eq_true] at hy
      simp only [RC] at rx ry
      subst rx; subst ry
      simp only [V.isAgg, mkVal_one, eqV]
      rw [show dd + (d + 1) = (dd + d) + 1 from rfl, run_equalIn_bool' w _ t _ _ hu]
    · rename_i hu
      cases h
      cases x <;> simp only [hasSh, Bool.false_eq_true] at hx
      cases y <;> simp only [hasSh, Bool.false_eq_true] at hy
      simp only [RC] at rx ry
      subst rx; subst ry
      simp only [V.isAgg, mkVal_one, eqV]
      rw [show dd + (d + 1) = (dd + d) + 1 from rfl, run_equalIn_string w _ t _ _ hu, beq_toListBytes]
    · rename_i fs hu
      split at h
      · cases h
      · rename_i hst
        split at h
        · rename_i l n hl hn
          cases h
          cases x <;> simp only [hasSh, Bool.false_eq_true] at hx
          cases y <;> simp only [hasSh, Bool.false_eq_true] at hy
          rename_i vs us
          simp only [RC] at rx ry
          simp only [Bool.and_eq_true] at hx hy
          have hf : P.fieldsOf t = fs := by simp [Program.fieldsOf, hu]
          simp only [V.isAgg, mkVal_agg, eqV]
          rw [show dd + (d + 1) = (dd + d) + 1 from rfl, run_equalIn_struct w _ t _ _ (by rw [hf]; exact hu) (by simpa using hst), hf]
          have key : ∀ (fs : List Field) (l : List (Nat × Sh)), (fs.mapM fun f => if f.name = "_" then none else (shOf P d f.type).map fun s => (f.offset, s)) = some l →
              ∀ (vs us : List V) (px py rx' ry' : List Value) (acc acc' : Nat), hasShF acc l vs = true → hasShF acc' l us = true → RCs g vs rx' → RCs g us ry' → px.length = acc → py.length = acc' → cx = px ++ rx' → cy = py ++ ry' →
              (Op.eqFields (dd + d) cx.toArray cy.toArray fs).run P w = .ok (eqVL vs us) w := by
            intro fs
            induction fs with
            | nil =>
              intro l hl vs us px py rx' ry' acc acc' h1 h2 _ _ _ _ _ _
              simp at hl; subst hl
              cases vs <;> simp only [hasShF, Bool.false_eq_true] at h1
              cases us <;> simp only [hasShF, Bool.false_eq_true] at h2
              rfl
            | cons f fs ih =>
              intro l hl vs us px py rx' ry' acc acc' h1 h2 r1 r2 e1 e2 e3 e4
              rw [List.mapM_cons] at hl
              by_cases hname : f.name = "_"
              · simp [hname] at hl
              · simp only [hname, if_false] at hl
                cases hs : shOf P d f.type with
                | none => simp [hs] at hl
                | some sf =>
                  cases hm : (fs.mapM fun f => if f.name = "_" then none else (shOf P d f.type).map fun s => (f.offset, s)) with
                  | none => simp [hs, hm] at hl
                  | some l' =>
                    simp [hs, hm] at hl
                    subst hl
                    cases vs with
                    | nil => simp only [hasShF, Bool.false_eq_true] at h1
                    | cons v vs =>
                      cases us with
                      | nil => simp only [hasShF, Bool.false_eq_true] at h2
                      | cons u us =>
                        simp only [hasShF, Bool.and_eq_true, decide_eq_true_eq] at h1 h2
                        obtain ⟨⟨o1, s1⟩, k1⟩ := h1
                        obtain ⟨⟨o2, s2⟩, k2⟩ := h2
                        simp only [RCs] at r1 r2
                        obtain ⟨a1, b1, q1, q2, q3⟩ := r1
                        obtain ⟨a2, b2, p1, p2, p3⟩ := r2
                        obtain ⟨g1, g2⟩ := shOf_agg hs s1
                        obtain ⟨g1', g2'⟩ := shOf_agg hs s2
                        have hp1 := run_part_sh (P := P) (t := f.type) (pre := px) (c := a1) (post := b1) (cs := cx.toArray) (off := f.offset) (x := v) (by simp [e3, q1]) (by omega) q2 g1 g2 w
                        have hp2 := run_part_sh (P := P) (t := f.type) (pre := py) (c := a2) (post := b2) (cs := cy.toArray) (off := f.offset) (x := u) (by simp [e4, p1]) (by omega) p2 g1' g2' w
                        have he := IH f.type sf hs v u g a1 a2 w dd s1 s2 q2 p2
                        have hrest := ih l' hm vs us (px ++ a1) (py ++ a2) b1 b2 (acc + flen v) (acc' + flen u) k1 k2 q3 p3 (by rw [List.length_append, q2.len, e1]) (by rw [List.length_append, p2.len, e2]) (by rw [e3, q1]; simp) (by rw [e4, p1]; simp)
                        simp only [Op.eqFields, hname, ne_eq, not_false_eq_true, if_true, Sem.run_bind, hp1, hp2, he, Result.andThen_ok, eqVL]
                        cases eqV v u
                        · simp
                        · simpa using hrest
          exact key fs.toList l hl vs us [] [] cx cy 0 0 hx.2 hy.2 rx ry rfl rfl rfl rfl
        · cases h
    · rename_i n e hu
      split at h
      · rename_i s' i j hs hi hj
        split at h
        · cases h
          cases x <;> simp only [hasSh, Bool.false_eq_true] at hx
          cases y <;> simp only [hasSh, Bool.false_eq_true] at hy
          rename_i e1 vs e2 us
          simp only [Bool.and_eq_true, decide_eq_true_eq] at hx hy
          obtain ⟨⟨rfl, hlx⟩, hx⟩ := hx
          obtain ⟨⟨rfl, hly⟩, hy⟩ := hy
          simp only [RC] at rx ry
          have hinfo : ∃ ti, P.info? e = some ti ∧ P.cellsOf e = e2 := by
            unfold szOf at hi
            cases hq : P.info? e with
            | none => simp [hq] at hi
            | some ti => exact ⟨ti, rfl, by simpa [Program.cellsOf, hq] using hi⟩
          obtain ⟨ti, hti, hcells⟩ := hinfo
          simp only [V.isAgg, mkVal_agg, eqV]
          rw [show dd + (d + 1) = (dd + d) + 1 from rfl, run_equalIn_array w _ _ _ hu hti, hcells]
          have key : ∀ (vs us : List V) (k : Nat) (px py rx' ry' : List Value), hasShA s' vs = true → hasShA s' us = true → vs.length = us.length → RCu g e2 vs rx' → RCu g e2 us ry' → px.length = k * e2 → py.length = k * e2 → cx = px ++ rx' → cy = py ++ ry' →
              (Op.eqItems (dd + d) e e2 cx.toArray cy.toArray (List.range' k vs.length)).run P w = .ok (eqVL vs us) w := by
            intro vs
            induction vs with
            | nil =>
              intro us k px py rx' ry' _ _ hl _ _ _ _ _ _
              cases us with
              | nil => rfl
              | cons u us => simp at hl
            | cons v vs ih =>
              intro us k px py rx' ry' h1 h2 hl r1 r2 l1 l2 e3 e4
              cases us with
              | nil => simp at hl
              | cons u us =>
                simp only [hasShA, Bool.and_eq_true] at h1 h2
                simp only [RCu] at r1 r2
                obtain ⟨a1, b1, q1, q0, q2, q3⟩ := r1
                obtain ⟨a2, b2, p1, p0, p2, p3⟩ := r2
                obtain ⟨g1, g2⟩ := shOf_agg hs h1.1
                obtain ⟨g1', g2'⟩ := shOf_agg hs h2.1
                have hp1 := run_part_sh (P := P) (t := e) (pre := px) (c := a1) (post := b1) (cs := cx.toArray) (off := k * e2) (x := v) (by simp [e3, q1]) l1 q2 g1 g2 w
                have hp2 := run_part_sh (P := P) (t := e) (pre := py) (c := a2) (post := b2) (cs := cy.toArray) (off := k * e2) (x := u) (by simp [e4, p1]) l2 p2 g1' g2' w
                have he := IH e s' hs v u g a1 a2 w dd h1.1 h2.1 q2 p2
                have hrest := ih us (k + 1) (px ++ a1) (py ++ a2) b1 b2 h1.2 h2.2 (by simpa using hl) q3 p3 (by rw [List.length_append, l1, q0, Nat.succ_mul]) (by rw [List.length_append, l2, p0, Nat.succ_mul]) (by rw [e3, q1]; simp) (by rw [e4, p1]; simp)
                rw [List.length_cons, List.range'_succ]
                simp only [Op.eqItems, Sem.run_bind, hp1, hp2, he, Result.andThen_ok, eqVL]
                cases eqV v u
                · simp
                · simpa using hrest
          have := key vs us 0 [] [] cx cy hx hy (by omega) rx ry (by simp) (by simp) rfl rfl
          rw [hlx] at this
          rw [List.range_eq_range']
          exact this
        · cases h
      · cases h
    · cases h

theorem mkVal_self {g : Gh} {x : V} {v : Value} (h : RV g x v) (hk : okV x = true) : v = mkVal x.isAgg v.cells.toList ∧ RC g x v.cells.toList := by
  obtain ⟨h1, h2⟩ := h.ok hk
  refine ⟨?_, h2⟩
  rw [h1]
  cases v <;> simp [valAgg, mkVal, Value.cells]

section
variable {P : Program} {E : Operand → V} {H : List AObj} {dst : Option Tmp} {ty : TypeId} {pos : String} {aft : Array Edge} {gd : Option (Nat × Bool)}

/-- What '==' of a type asks: its shape, and that the guard has nothing to say. -/
def EqT (P : Program) (t : TypeId) (s : Sh) : Prop := shOf P 20 t = some s ∧ P.eqGuardType P.depth t = false

theorem run_eqv {t : TypeId} {s : Sh} (ht : EqT P t s) {x y : V} {g : Gh} {u v : Value} (hx : hasSh s x = true) (hy : hasSh s y = true) (ax : x.isAgg = true) (ay : y.isAgg = true) (rx : RV g x u) (ry : RV g y v) (w : World) :
    ∃ cx cy : Array Value, u = .agg cx ∧ v = .agg cy ∧ (Op.equalIn 10000 t (.agg cx) (.agg cy)).run P w = .ok (eqV x y) w := by
  obtain ⟨cx, rfl, hcx⟩ := rx.agg_eq ax
  obtain ⟨cy, rfl, hcy⟩ := ry.agg_eq ay
  refine ⟨cx, cy, rfl, rfl, ?_⟩
  have := run_equal_sh 20 t s ht.1 x y g _ _ w 9980 hx hy hcx hcy
  rw [ax, ay, mkVal_agg, mkVal_agg] at this
  simpa using this

theorem OpS.eqlV {t t' : TypeId} {x y : Operand} {s : Sh} {vx vy : V} (ht : EqT P t s) (hx : E x = vx) (hy : E y = vy) (sx : hasSh s vx = true) (sy : hasSh s vy = true) (ax : vx.isAgg = true) (ay : vy.isAgg = true) :
    OpS P ⟨dst, .binOp .eql t x y t', ty, pos, aft, gd⟩ E H (.bool (eqV vx vy)) H :=
  .quiet fun g rc w h _ => by
    obtain ⟨cx, cy, e1, e2, hr⟩ := run_eqv ht sx sy ax ay (hx ▸ h x (by simp [Op.operands])) (hy ▸ h y (by simp [Op.operands])) w
    refine ⟨.bool (eqV vx vy), ?_, RV.bool g _⟩
    simp only [execOp, e1, e2, Sem.run_bind, run_eqGuard_agg w .eql t x y cx cy ht.2, Result.andThen_ok, run_eql_struct, hr, Sem.run_pure]

theorem OpS.neqV {t t' : TypeId} {x y : Operand} {s : Sh} {vx vy : V} (ht : EqT P t s) (hx : E x = vx) (hy : E y = vy) (sx : hasSh s vx = true) (sy : hasSh s vy = true) (ax : vx.isAgg = true) (ay : vy.isAgg = true) :
    OpS P ⟨dst, .binOp .neq t x y t', ty, pos, aft, gd⟩ E H (.bool (!(eqV vx vy))) H :=
  .quiet fun g rc w h _ => by
    obtain ⟨cx, cy, e1, e2, hr⟩ := run_eqv ht sx sy ax ay (hx ▸ h x (by simp [Op.operands])) (hy ▸ h y (by simp [Op.operands])) w
    refine ⟨.bool (!(eqV vx vy)), ?_, RV.bool g _⟩
    simp only [execOp, e1, e2, Sem.run_bind, run_eqGuard_agg w .neq t x y cx cy ht.2, Result.andThen_ok, run_neq_struct, hr, Sem.run_pure]

end

end Go.Av
