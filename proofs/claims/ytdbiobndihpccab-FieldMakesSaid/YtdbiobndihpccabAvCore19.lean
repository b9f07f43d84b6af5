/- States made alike: objects numbered anew, told less of, left out; what was a buffer, or a variable, never turns again. -/
import Derived.Test.YtdbiobndihpccabAvCore18
namespace Go.Av
set_option linter.unusedSimpArgs false
set_option linter.unusedVariables false
set_option linter.unusedSectionVars false

/-- An object of which no more is told. -/
def ASub : AObj → AObj → Prop
  | .cells v, .cells v' => RSub v v'
  | .buf e vs, .buf e' vs' => e = e' ∧ RSubL vs vs'
  | .tail, .tail => True
  | .map es, .map es' => es = es'
  | _, .dead => True
  | _, _ => False

theorem ASub.rel {g : Gh} {w : World} {p : Place} {ob ob' : AObj} (h : ASub ob ob') (k : ORel g w p ob) : ORel g w p ob' := by
  cases ob <;> cases ob' <;> simp only [ASub] at h <;> try exact trivial
  · obtain ⟨cs, ty, h1, ⟨j, h2, h3⟩, h4⟩ := k
    exact ⟨cs, ty, h1, ⟨j, h.fl ▸ h2, h.fl ▸ h.rc g _ h3⟩, h4⟩
  · obtain ⟨rfl, h⟩ := h
    rcases k with ⟨x, rfl⟩ | ⟨h0, cs, ty, h1, ⟨c, j, h2, h3⟩, h4⟩
    · cases h; exact .inl ⟨x, rfl⟩
    · exact .inr ⟨h0, cs, ty, h1, ⟨c, j, h2, h.rcu h3⟩, h4⟩
  · exact k
  · subst h; exact k
theorem ASub.own {p : Place} {ob ob' : AObj} (h : ASub ob ob') (k : p.own ob' = true) : p.own ob = true := by
  cases ob <;> cases ob' <;> simp only [ASub] at h <;> first | exact k | (simp [Place.own] at k; done)
theorem ASub.refl (ob : AObj) : ASub ob ob := by
  cases ob <;> simp only [ASub]
  · exact .refl _
  · exact ⟨trivial, .refl _⟩

inductive SelHS (f : Nat → Nat) (m : Nat) (H : List AObj) : List Nat → List AObj → Prop where
  | nil : SelHS f m H [] []
  | cons {i : Nat} {ob ob0 : AObj} {is : List Nat} {r : List AObj} (hl : ob.lt m = true) (hi : H[i]? = some ob0) (hs : ASub ob0 (ob.ren f)) (k : SelHS f m H is r) : SelHS f m H (i :: is) (ob :: r)

theorem SelHS.get {f : Nat → Nat} {m : Nat} {H H' : List AObj} {ids : List Nat} (h : SelHS f m H ids H') : ids.length = H'.length ∧ ∀ (k : Nat) (ob : AObj), H'[k]? = some ob → ∃ i ob0, ids[k]? = some i ∧ ob.lt m = true ∧ H[i]? = some ob0 ∧ ASub ob0 (ob.ren f) := by
  induction h with
  | nil => exact ⟨rfl, fun k ob h => by simp at h⟩
  | cons hl hi hs _ ih =>
    refine ⟨by simp [ih.1], fun k ob h => ?_⟩
    cases k with
    | zero => simp at h; subst h; exact ⟨_, _, rfl, hl, hi, hs⟩
    | succ k => simpa using ih.2 k ob (by simpa using h)

theorem own_ren (q : Place) (f : Nat → Nat) (ob : AObj) : q.own (ob.ren f) = q.own ob := by cases ob <;> rfl

/-- What is told of an object, told by other numbers. -/
theorem ORel.turned {f : Nat → Nat} {m : Nat} {g g' : Gh} (tr : g.turned f m g') (hI : g'.I = g.I) {w : World} {q : Place} {ob : AObj} (e2 : ob.lt m = true) (this : ORel g w q (ob.ren f)) : ORel g' w q ob := by
  cases ob with
  | cells v =>
    obtain ⟨cs, cty, q1, ⟨j, q2, q3⟩, q4⟩ := this
    simp only [flen_ren] at q2 q3
    exact ⟨cs, cty, q1, ⟨j, q2, q3.turned tr (by simpa only [AObj.lt] using e2)⟩, hI ▸ q4⟩
  | buf e vs =>
    rcases this with ⟨x, y⟩ | ⟨q0, cs, ty, q1, ⟨c, j, q2, q3⟩, q4, q5⟩
    · exact .inl ⟨x, List.eq_nil_of_length_eq_zero (by rw [← V.renL_length f, y]; rfl)⟩
    · exact .inr ⟨q0, cs, ty, q1, ⟨c, j, q2, q3.turned tr (by simpa only [AObj.lt] using e2)⟩, q4, hI ▸ q5⟩
  | tail =>
    rcases this with x | ⟨cs, ty, q1, q2, q3⟩
    · exact .inl x
    · exact .inr ⟨cs, ty, q1, q2, hI ▸ q3⟩
  | map es => obtain ⟨en, cl, q1, q2, q3⟩ := this; exact ⟨en, cl, q1, q2.turned tr (by simpa only [AObj.lt] using e2), q3⟩
  | dead => trivial

theorem sel_hr {g : Gh} {H H' : List AObj} {w : World} (h2 : HR g H w) {ids : List Nat} (hnd : ids.Nodup) (hH : SelHS (fun k => ids.getD k 0) ids.length H ids H') :
    g.turned (fun k => ids.getD k 0) ids.length { g with ρ := ids.map fun i => g.ρ.getD i ⟨0, 0, 0, true⟩ } ∧ HR { g with ρ := ids.map fun i => g.ρ.getD i ⟨0, 0, 0, true⟩ } H' w ∧
    (∀ (k : Nat) (q : Place) (ob : AObj), (ids.map fun i => g.ρ.getD i ⟨0, 0, 0, true⟩)[k]? = some q → H'[k]? = some ob → ∃ i ob0, ids[k]? = some i ∧ H[i]? = some ob0 ∧ ASub ob0 (ob.ren (fun k => ids.getD k 0)) ∧ g.ρ[i]? = some q) := by
  obtain ⟨hlen, hget⟩ := hH.get
  have hρ : ∀ (k : Nat) (p : Place), k < ids.length → g.ρ[ids.getD k 0]? = some p → (ids.map fun i => g.ρ.getD i ⟨0, 0, 0, true⟩)[k]? = some p := by
    intro k p hk hp
    simp only [List.getElem?_map]
    have : ids[k]? = some (ids.getD k 0) := by simp [List.getD, hk]
    rw [this, Option.map_some, List.getD_eq_getElem?_getD (l := g.ρ), hp]
    rfl
  have hρ' : ∀ (k : Nat) (q : Place) (ob : AObj), (ids.map fun i => g.ρ.getD i ⟨0, 0, 0, true⟩)[k]? = some q → H'[k]? = some ob →
      ∃ i ob0, ids[k]? = some i ∧ ob.lt ids.length = true ∧ H[i]? = some ob0 ∧ ASub ob0 (ob.ren (fun k => ids.getD k 0)) ∧ g.ρ[i]? = some q := by
    intro k q ob hq hob
    obtain ⟨i, ob0, h1, h2', h3, h4⟩ := hget k ob hob
    refine ⟨i, ob0, h1, h2', h3, h4, ?_⟩
    simp only [List.getElem?_map, h1, Option.map_some, Option.some.injEq] at hq
    have hi : i < g.ρ.length := by rw [h2.len]; exact (List.getElem?_eq_some_iff.1 h3).1
    rw [← hq]
    simp [List.getD, hi]
  have tr : g.turned (fun k => ids.getD k 0) ids.length { g with ρ := ids.map fun i => g.ρ.getD i ⟨0, 0, 0, true⟩ } := ⟨fun _ _ _ h => h, fun o p ho hp => hρ o p ho hp⟩
  refine ⟨tr, ⟨h2.agree, by simp [hlen], ?_, ?_⟩, fun k q ob hq ho => ?_⟩
  · intro k q ob hq hob
    obtain ⟨i, ob0, e1, e2, e3, e4, e5⟩ := hρ' k q ob hq hob
    exact (e4.rel (h2.obj i q _ e5 e3)).turned tr rfl e2
  · intro k k' q q' ob1 ob2 hq hq' ho ho' l1 l2 e
    obtain ⟨i, ob0, e1, _, e3, e4, e5⟩ := hρ' k q ob1 hq ho
    obtain ⟨i', ob0', e1', _, e3', e4', e5'⟩ := hρ' k' q' ob2 hq' ho'
    have hii := h2.inj i i' q q' _ _ e5 e5' e3 e3' (e4.own (by rw [own_ren]; exact l1)) (e4'.own (by rw [own_ren]; exact l2)) e
    subst hii
    have hk := (List.getElem?_eq_some_iff.1 e1).1
    have hk' := (List.getElem?_eq_some_iff.1 e1').1
    exact (List.getElem?_inj hk hnd).1 (e1.trans e1'.symm)
  · obtain ⟨i, ob0, e1, _, e3, e4, e5⟩ := hρ' k q ob hq ho
    exact ⟨i, ob0, e1, e3, e4, e5⟩

theorem Wk.selS {n m : Nat} {env env' : List (Nat × V)} {H H' : List AObj} (ids : List Nat)
    (hnd : ids.Nodup) (hm : ids.take m = List.range m) (he : SelE (fun k => ids.getD k 0) ids.length env env') (hH : SelHS (fun k => ids.getD k 0) ids.length H ids H') : Wk n m ⟨env, H⟩ ⟨env', H'⟩ := by
  intro B g a w b1 b2 h1 h2 h3
  obtain ⟨tr, hr, hρ'⟩ := sel_hr h2 hnd hH
  refine ⟨_, ⟨fun t => ?_, h1.size, h1.defers⟩, hr, ?_⟩
  · obtain ⟨q1, q2⟩ := he.look t
    exact (q2 g _ (h1.env t)).turned tr q1
  · refine ⟨⟨h3.le.imm, fun o p hp => ?_⟩, h3.os, h3.tape, h3.output, h3.size, h3.drawn, h3.keep, h3.imm, ?_⟩
    · have ho : o < m := by have := (List.getElem?_eq_some_iff.1 hp).1; omega
      have e : ids[o]? = some o := by
        have : (ids.take m)[o]? = some o := by rw [hm]; simp [ho]
        rwa [List.getElem?_take_of_lt ho] at this
      have hk : o < ids.length := (List.getElem?_eq_some_iff.1 e).1
      refine tr.2 o p hk ?_
      have : ids.getD o 0 = o := by rw [List.getD_eq_getElem?_getD, e]; rfl
      simp only [this]
      exact h3.le.pre o p hp
    · intro b hb
      obtain ⟨k, q, ob, hq, hob, l1, e⟩ := hb
      obtain ⟨i, ob0, e1, e3, e4, e5⟩ := hρ' k q ob hq hob
      exact h3.live b ⟨i, q, ob0, e5, e3, e4.own (by rw [own_ren]; exact l1), e⟩

end Go.Av
