/- A call that is handed a buffer to read; the buffer is not written any more. -/
import Derived.Test.YtdbiobndihpccabAvCore24
namespace Go.Av
set_option linter.unusedSimpArgs false
set_option linter.unusedVariables false
set_option linter.unusedSectionVars false

theorem OkRes.mono {P : Program} {K K' : Value → World → Prop} (hk : ∀ x w, K x w → K' x w) {r : Result Next} (h : OkRes P K r) : OkRes P K' r := by
  cases r with
  | ok nx w' =>
    cases nx <;> simp only [OkRes] at h ⊢ <;> try exact h
    · exact hk _ _ h
    · exact hk _ _ h
    · exact h.mono fun e w'' he => by
        cases e with
        | returned x => exact hk _ _ he
        | panicked c => exact he
        | outgrown => exact he
  | halt x w' => exact h

theorem OpS.fz {P : Program} {op : Oper} {env : List (Nat × V)} {H H' : List AObj} {v v0 v1 : V} {ob : AObj} (o t : Nat) (ho : H[o]? = some ob) (hf : ob.fz = true) (hl : look env t = v0) (hk : okV v0 = true) (hz : FzR o ob v0 v1)
    (h : OpS P op (ev ((t, v1) :: env)) (H.set o .dead) v H') : OpS P op (ev env) H v H' := by
  intro g rc w hx hr
  have hol : o < g.ρ.length := by rw [hr.len]; exact (List.getElem?_eq_some_iff.1 ho).1
  have hp := List.getElem?_eq_getElem hol
  obtain ⟨g', le, hρ, hI, hr', himm⟩ := hr.freeze hp ho hf
  have hp' : g'.ρ[o]? = some g.ρ[o] := by rw [hρ]; exact hp
  have hev : Ev g H w g' (H.set o .dead) w := by
    refine ⟨le, rfl, rfl, rfl, Nat.le_refl _, Nat.le_refl _, fun _ _ _ => rfl, himm, ?_⟩
    rintro b ⟨k, q, y, hq, hy, l1, e⟩
    by_cases ek : k = o
    · subst ek
      rw [List.getElem?_set_self (by rw [← hr.len]; exact hol)] at hy
      cases hy
      simp [Place.own] at l1
    · rw [List.getElem?_set_ne (Ne.symm ek)] at hy
      exact .inl ⟨k, q, y, by rw [← hρ]; exact hq, hy, l1, e⟩
  refine (h g' rc w (fun x hxm => ?_) hr').mono fun x w' ⟨g2, h1, h2, h3⟩ => ⟨g2, h1, h2, hev.trans h3⟩
  have hv := (hx x hxm).mono le
  cases x with
  | tmp t' =>
    show RV g' (look ((t, v1) :: env) t') _
    rw [look_cons]
    split
    · rename_i e; subst e
      have hv' : RV g' (look env t') (rc (.tmp t')) := hv
      rw [hl] at hv'
      have := hv'.ok hk
      exact .of (hz.agg.symm.trans this.1) (hz.rc g' _ hp' hI _ this.2)
    · exact hv
  | const c => exact hv
  | global c => exact hv
  | func c => exact hv
end Go.Av
