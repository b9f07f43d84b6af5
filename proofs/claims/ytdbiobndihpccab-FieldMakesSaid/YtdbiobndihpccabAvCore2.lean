/- Facts on what abstract values stand for: lengths, single cells, parts by a path. -/
import Derived.Test.YtdbiobndihpccabAvCore1
import Derived.Laws.CopyRow
namespace Go.Av
set_option linter.unusedVariables false
set_option linter.unusedSimpArgs false

mutual
theorem RC.len {g : Gh} : ∀ {v : V} {cs : List Value}, RC g v cs → cs.length = flen v
  | .bool _, _, k => by simp only [RC] at k; simp [k, flen]
  | .int _ _, _, k => by simp only [RC] at k; simp [k, flen]
  | .str _, _, k => by simp only [RC] at k; simp [k, flen]
  | .nilp, _, k => by simp only [RC] at k; simp [k, flen]
  | .ptr _ _ _, _, k => by simp only [RC] at k; obtain ⟨p, h1, h2⟩ := k; simp [h2, flen]
  | .cptr _, _, k => by simp only [RC] at k; obtain ⟨a, c, h1, h2, h3, h4⟩ := k; simp [h2, flen]
  | .nils, _, k => by simp only [RC] at k; simp [k, flen]
  | .sl _ _ _, _, k => by simp only [RC] at k; obtain ⟨a, cap, h1, h2⟩ := k; simp [h1, flen]
  | .slo _ _ _ _ _ _ _, _, k => by simp only [RC] at k; obtain ⟨p, h1, a, c, h2, h3⟩ := k; simp [h2, flen]
  | .fn _ _ _, _, k => by simp only [RC] at k; obtain ⟨a, b, h1, h2, h3⟩ := k; simp [h1, flen]
  | .nilfn, _, k => by simp only [RC] at k; simp [k, flen]
  | .ifc _ _, _, k => by simp only [RC] at k; obtain ⟨x, h1, h2, h3⟩ := k; simp [h1, flen]
  | .nili, _, k => by simp only [RC] at k; simp [k, flen]
  | .st _, _, k => by simp only [RC] at k; simp only [flen]; exact RCs.len k
  | .arr _ _, _, k => by simp only [RC] at k; simp only [flen]; exact RCu.len k
  | .tup _, _, k => by simp only [RC] at k
  | .map _, _, k => by simp only [RC] at k; obtain ⟨p, h1, h2⟩ := k; simp [h2, flen]
  | .nilmap, _, k => by simp only [RC] at k; simp [k, flen]
  | .undef, _, k => by simp only [RC] at k
theorem RCs.len {g : Gh} : ∀ {vs : List V} {cs : List Value}, RCs g vs cs → cs.length = flenL vs
  | [], _, k => by simp only [RCs] at k; simp [k, flenL]
  | _ :: _, _, k => by
    simp only [RCs] at k
    obtain ⟨a, b, h1, h2, h3⟩ := k
    simp [h1, flenL, RC.len h2, RCs.len h3]
theorem RCu.len {g : Gh} {e : Nat} : ∀ {vs : List V} {cs : List Value}, RCu g e vs cs → cs.length = vs.length * e
  | [], _, k => by simp only [RCu] at k; simp [k]
  | _ :: _, _, k => by
    simp only [RCu] at k
    obtain ⟨a, b, h1, h0, h2, h3⟩ := k
    simp [h1, h0, RCu.len h3, Nat.succ_mul, Nat.add_comm]
end

mutual
theorem RC.one {g : Gh} : ∀ {v : V} {cs : List Value}, RC g v cs → ∀ c ∈ cs, c.oneCell' = true
  | .bool _, _, k => by simp only [RC] at k; simp [k, Value.oneCell']
  | .int _ _, _, k => by simp only [RC] at k; simp [k, Value.oneCell']
  | .str _, _, k => by simp only [RC] at k; simp [k, Value.oneCell']
  | .nilp, _, k => by simp only [RC] at k; simp [k, Value.oneCell']
  | .ptr _ _ _, _, k => by simp only [RC] at k; obtain ⟨p, h1, h2⟩ := k; simp [h2, Value.oneCell']
  | .cptr _, _, k => by simp only [RC] at k; obtain ⟨a, c, h1, h2, h3, h4⟩ := k; simp [h2, Value.oneCell']
  | .nils, _, k => by simp only [RC] at k; simp [k, Value.oneCell']
  | .sl _ _ _, _, k => by simp only [RC] at k; obtain ⟨a, cap, h1, h2⟩ := k; simp [h1, Value.oneCell']
  | .slo _ _ _ _ _ _ _, _, k => by simp only [RC] at k; obtain ⟨p, h1, a, c, h2, h3⟩ := k; simp [h2, Value.oneCell']
  | .fn _ _ _, _, k => by simp only [RC] at k; obtain ⟨a, b, h1, h2, h3⟩ := k; simp [h1, Value.oneCell']
  | .nilfn, _, k => by simp only [RC] at k; simp [k, Value.oneCell']
  | .ifc _ _, _, k => by simp only [RC] at k; obtain ⟨x, h1, h2, h3⟩ := k; simp [h1, Value.oneCell']
  | .nili, _, k => by simp only [RC] at k; simp [k, Value.oneCell']
  | .st _, _, k => by simp only [RC] at k; exact RCs.one k
  | .arr _ _, _, k => by simp only [RC] at k; exact RCu.one k
  | .tup _, _, k => by simp only [RC] at k
  | .map _, _, k => by simp only [RC] at k; obtain ⟨p, h1, h2⟩ := k; simp [h2, Value.oneCell']
  | .nilmap, _, k => by simp only [RC] at k; simp [k, Value.oneCell']
  | .undef, _, k => by simp only [RC] at k
theorem RCs.one {g : Gh} : ∀ {vs : List V} {cs : List Value}, RCs g vs cs → ∀ c ∈ cs, c.oneCell' = true
  | [], _, k => by simp only [RCs] at k; simp [k]
  | _ :: _, _, k => by
    simp only [RCs] at k
    obtain ⟨a, b, h1, h2, h3⟩ := k
    subst h1
    intro c hc
    rcases List.mem_append.1 hc with h | h
    · exact RC.one h2 c h
    · exact RCs.one h3 c h
theorem RCu.one {g : Gh} {e : Nat} : ∀ {vs : List V} {cs : List Value}, RCu g e vs cs → ∀ c ∈ cs, c.oneCell' = true
  | [], _, k => by simp only [RCu] at k; simp [k]
  | _ :: _, _, k => by
    simp only [RCu] at k
    obtain ⟨a, b, h1, h0, h2, h3⟩ := k
    subst h1
    intro c hc
    rcases List.mem_append.1 hc with h | h
    · exact RC.one h2 c h
    · exact RCu.one h3 c h
end

theorem RV.val {g : Gh} {v : V} {x : Value} (h : RV g v x) (hu : v ≠ .undef) (ht : ∀ vs, v ≠ .tup vs) : v.isAgg = valAgg x ∧ RC g v x.cells.toList := by
  cases v <;> first
    | exact absurd rfl hu
    | exact absurd rfl (ht _)
    | exact h

/-- A leaf is one cell, which is the value. -/
theorem RC.leaf {g : Gh} {v : V} {x : Value} (ha : v.isAgg = false) (h : RC g v [x]) : RV g v x := by
  have h1 := RC.one h x (by simp)
  have : valAgg x = false := by cases x <;> simp_all [valAgg, Value.oneCell']
  refine RV.of (ha.trans this.symm) ?_
  have hc : x.cells.toList = [x] := by cases x <;> simp_all [Value.cells, valAgg]
  rw [hc]; exact h

theorem RC.agg {g : Gh} {v : V} {cs : List Value} (ha : v.isAgg = true) (h : RC g v cs) : RV g v (.agg cs.toArray) :=
  RV.of (by simpa [valAgg] using ha) (by simpa [Value.cells] using h)

/-- The part of a tree at a path. -/
def V.at : V → List Nat → Option V
  | v, [] => some v
  | .st vs, k :: p => match vs[k]? with | some u => u.at p | none => none
  | .arr _ vs, k :: p => match vs[k]? with | some u => u.at p | none => none
  | _, _ :: _ => none

def V.offOf : V → List Nat → Nat → Nat
  | _, [], acc => acc
  | .st vs, k :: p, acc => (vs.getD k .undef).offOf p (acc + flenL (vs.take k))
  | .arr e vs, k :: p, acc => (vs.getD k .undef).offOf p (acc + k * e)
  | _, _ :: _, acc => acc

def V.setAt : V → List Nat → V → V
  | _, [], u => u
  | .st vs, k :: p, u => .st (vs.set k ((vs.getD k .undef).setAt p u))
  | .arr e vs, k :: p, u => .arr e (vs.set k ((vs.getD k .undef).setAt p u))
  | v, _ :: _, _ => v

theorem RCs.get {g : Gh} : ∀ {vs : List V} {cs : List Value} {k : Nat} {u : V}, RCs g vs cs → vs[k]? = some u →
    ∃ pre c post, cs = pre ++ c ++ post ∧ pre.length = flenL (vs.take k) ∧ RC g u c ∧
      ∀ u' c', RC g u' c' → RCs g (vs.set k u') (pre ++ c' ++ post)
  | [], _, _, _, _, h => by simp at h
  | v :: vs, cs, 0, u, k, h => by
    simp only [RCs] at k
    obtain ⟨a, b, h1, h2, h3⟩ := k
    simp at h; subst h
    refine ⟨[], a, b, by simpa using h1, by simp [flenL], h2, fun u' c' hc => ?_⟩
    simp only [List.set_cons_zero, RCs]
    exact ⟨c', b, by simp, hc, h3⟩
  | v :: vs, cs, k + 1, u, hk, h => by
    simp only [RCs] at hk
    obtain ⟨a, b, h1, h2, h3⟩ := hk
    obtain ⟨pre, c, post, e1, e2, e3, e4⟩ := RCs.get h3 (k := k) (by simpa using h)
    refine ⟨a ++ pre, c, post, by simp [h1, e1], by simp [flenL, e2, RC.len h2], e3, fun u' c' hc => ?_⟩
    simp only [List.set_cons_succ, RCs]
    exact ⟨a, pre ++ c' ++ post, by simp, h2, e4 u' c' hc⟩

theorem RCu.get {g : Gh} {e : Nat} : ∀ {vs : List V} {cs : List Value} {k : Nat} {u : V}, RCu g e vs cs → vs[k]? = some u →
    ∃ pre c post, cs = pre ++ c ++ post ∧ pre.length = k * e ∧ c.length = e ∧ RC g u c ∧
      ∀ u' c', RC g u' c' → c'.length = e → RCu g e (vs.set k u') (pre ++ c' ++ post)
  | [], _, _, _, _, h => by simp at h
  | v :: vs, cs, 0, u, k, h => by
    simp only [RCu] at k
    obtain ⟨a, b, h1, h0, h2, h3⟩ := k
    simp at h; subst h
    refine ⟨[], a, b, by simpa using h1, by simp, h0, h2, fun u' c' hc hl => ?_⟩
    simp only [List.set_cons_zero, RCu]
    exact ⟨c', b, by simp, hl, hc, h3⟩
  | v :: vs, cs, k + 1, u, hk, h => by
    simp only [RCu] at hk
    obtain ⟨a, b, h1, h0, h2, h3⟩ := hk
    obtain ⟨pre, c, post, e1, e2, el, e3, e4⟩ := RCu.get h3 (k := k) (by simpa using h)
    refine ⟨a ++ pre, c, post, by simp [h1, e1], by simp [e2, h0, Nat.succ_mul, Nat.add_comm], el, e3, fun u' c' hc hl => ?_⟩
    simp only [List.set_cons_succ, RCu]
    exact ⟨a, pre ++ c' ++ post, by simp, h0, h2, e4 u' c' hc hl⟩

/-- The cells of the part at a path, and what becomes of the whole if they are written. -/
theorem RC.at {g : Gh} : ∀ {path : List Nat} {v u : V} {cs : List Value} {acc : Nat}, RC g v cs → v.at path = some u →
    ∃ pre c post, cs = pre ++ c ++ post ∧ acc + pre.length = v.offOf path acc ∧ RC g u c ∧
      ∀ u' c', RC g u' c' → c'.length = c.length → RC g (v.setAt path u') (pre ++ c' ++ post)
  | [], v, u, cs, acc, h, hu => by
    simp only [V.at, Option.some.injEq] at hu; subst hu
    exact ⟨[], cs, [], by simp, by simp [V.offOf], h, fun u' c' hc _ => by simpa [V.setAt] using hc⟩
  | k :: p, v, u, cs, acc, h, hu => by
    cases v with
    | st vs =>
      simp only [V.at] at hu
      cases hk : vs[k]? with
      | none => simp [hk] at hu
      | some x =>
        simp only [hk] at hu
        simp only [RC] at h
        obtain ⟨pre, c, post, e1, e2, e3, e4⟩ := RCs.get h hk
        obtain ⟨pre', c', post', f1, f2, f3, f4⟩ := RC.at (path := p) (acc := acc + flenL (vs.take k)) e3 hu
        have hg : vs.getD k .undef = x := by simp [List.getD, hk]
        refine ⟨pre ++ pre', c', post' ++ post, by simp [e1, f1], by simp only [V.offOf, hg, List.length_append]; omega, f3, fun u' d hd hl => ?_⟩
        simp only [V.setAt, RC, hg]
        have := e4 _ _ (f4 u' d hd hl)
        simpa using this
    | arr e vs =>
      simp only [V.at] at hu
      cases hk : vs[k]? with
      | none => simp [hk] at hu
      | some x =>
        simp only [hk] at hu
        simp only [RC] at h
        obtain ⟨pre, c, post, e1, e2, el, e3, e4⟩ := RCu.get h hk
        obtain ⟨pre', c', post', f1, f2, f3, f4⟩ := RC.at (path := p) (acc := acc + k * e) e3 hu
        have hg : vs.getD k .undef = x := by simp [List.getD, hk]
        refine ⟨pre ++ pre', c', post' ++ post, by simp [e1, f1], by simp only [V.offOf, hg, List.length_append]; omega, f3, fun u' d hd hl => ?_⟩
        simp only [V.setAt, RC, hg]
        have := e4 _ _ (f4 u' d hd hl) (by rw [← el, f1]; simp [hl])
        simpa using this
    | _ => simp [V.at] at hu

end Go.Av
