/- Slices that may be nil; the library's Clone. -/
import Derived.Test.YtdbiobndihpccabAvCore23
import Derived.Laws.Cover3
namespace Go.Av
set_option linter.unusedSimpArgs false
set_option linter.unusedVariables false
set_option linter.unusedSectionVars false

/-- A slice is nil, or it is not. -/
theorem AWp.splitNil {P : Program} {n m : Nat} {Q : AEx → St → Prop} {env : List (Nat × V)} {H : List AObj} {c : Code} {t e : Nat} {tk : Tk} {xs : List V} (h : look env t = .sl e tk xs)
    (h1 : xs = [] → AWp P n m c Q ⟨(t, .nils) :: env, H⟩) (h2 : AWp P n m c Q ⟨(t, .sl e .nn xs) :: env, H⟩) : AWp P n m c Q ⟨env, H⟩ := by
  intro B g a w b1 b2 r1 r2 r3
  have hv := r1.env t
  rw [show (⟨env, H⟩ : St).env = env from rfl, h] at hv
  obtain ⟨ad, cap, hx, hlen, htk, cc, hc, hn, hs⟩ := hv.sl_eq
  have upd : ∀ v : V, RV g v (a.tmps.getD t Go.undef) → RAct g n ((t, v) :: env) a := fun v hv' => ⟨fun t' => by
    rw [look_cons]
    split
    · rename_i e; subst e; exact hv'
    · exact r1.env t', r1.size, r1.defers⟩
  cases ad with
  | none =>
    have hc0 := hn rfl
    have hnil : xs = [] := List.eq_nil_of_length_eq_zero (by omega)
    refine h1 hnil B g a w b1 b2 (upd _ ?_) r2 r3
    rw [hx]
    refine RV.of_leaf rfl ?_
    subst hnil hc0
    simp [RC]
  | some ad =>
    refine h2 B g a w b1 b2 (upd _ ?_) r2 r3
    rw [hx]
    refine RV.of_leaf rfl ?_
    simp only [RC]
    exact ⟨some ad, cap, rfl, hlen, by simp [Tk.ok], cc, hc, hn, hs⟩

theorem RSub.nn (e : Nat) (xs : List V) : RSub (.sl e .nn xs) (.sl e .no xs) := .forget _ _ _

/-- Nil as a buffer. -/
theorem Wk.nilbuf {n m : Nat} {env : List (Nat × V)} {H : List AObj} {t : Nat} (e : Nat) (h : look env t = .nils) : Wk n m ⟨env, H⟩ ⟨(t, .slo e H.length [] 0 0 0 1) :: env, H ++ [.buf e []]⟩ := by
  intro B g a w b1 b2 r1 r2 r3
  have hadd : HR { g with ρ := g.ρ ++ [⟨0, 0, 0, true⟩] } (H ++ [.buf e []]) w := r2.add ⟨0, 0, 0, true⟩ (.buf e []) (.inl ⟨rfl, rfl⟩) (fun h => by simp [Place.own] at h)
  have hv := r1.env t
  rw [show (⟨env, H⟩ : St).env = env from rfl, h] at hv
  have hx := hv.nils_eq
  refine ⟨_, ⟨fun t' => ?_, r1.size, r1.defers⟩, hadd, r3.trans ⟨g.le_push _, rfl, rfl, rfl, Nat.le_refl _, Nat.le_refl _, fun _ _ _ => rfl, fun _ _ _ _ => rfl, ?_⟩⟩
  · rw [look_cons]
    split
    · rename_i e'; subst e'
      rw [hx]
      refine RV.of_leaf rfl ?_
      simp only [RC]
      exact ⟨⟨0, 0, 0, true⟩, by show (g.ρ ++ [_])[H.length]? = _; rw [← r2.len]; simp, none, 0, rfl, Nat.le_refl _, .inl ⟨rfl, rfl⟩⟩
    · exact (r1.env t').mono (g.le_push _)
  · rintro b ⟨a', q, ob1, h1, h2, l1, e'⟩
    rcases Nat.lt_or_ge a' g.ρ.length with hlt | hge
    · exact ⟨a', q, ob1, by rwa [List.getElem?_append_left hlt] at h1, by rwa [List.getElem?_append_left (r2.len ▸ hlt)] at h2, l1, e'⟩ |> .inl
    · have hle : a' < (g.ρ ++ [(⟨0, 0, 0, true⟩ : Place)]).length := (List.getElem?_eq_some_iff.1 h1).1
      have : a' = g.ρ.length := by simp at hle; omega
      subst this
      rw [List.getElem?_append_right (Nat.le_refl _)] at h1
      rw [r2.len, List.getElem?_append_right (Nat.le_refl _)] at h2
      simp at h1 h2
      subst h1 h2
      simp [Place.own] at l1

theorem run_eql_slice_nil {P : Program} (w : World) (t e : TypeId) (a : Option Addr) (l c : Nat) (h : P.underlying t = some (.slice e)) : (Go.binOp .eql t (.slice a l c) (.slice none 0 0)).run P w = .ok (.bool a.isNone) w := by
  simp only [Go.binOp]
  simp [run_equal_slice_nil w t e a l c h]

section
variable {P : Program} {E : Operand → V} {H : List AObj} {dst : Option Tmp} {ty : TypeId} {pos : String} {aft : Array Edge} {gd : Option (Nat × Bool)}
theorem OpS.eqlNil {t t' et : TypeId} {x y : Operand} {e by_ : Nat} {b : Bool} (hl : sliOf P t = some (et, e, b, by_)) (hx : E x = .nils) (hy : E y = .nils) : OpS P ⟨dst, .binOp .eql t x y t', ty, pos, aft, gd⟩ E H (.bool true) H :=
  .quiet fun g rc w h _ => by
    obtain ⟨hut, _⟩ := sliOf_get hl
    have e1 := (hx ▸ h x (by simp [Op.operands])).nils_eq
    have e2 := (hy ▸ h y (by simp [Op.operands])).nils_eq
    have hr := run_eql_slice_nil (P := P) w t et none 0 0 hut
    exact ⟨.bool true, by simp only [execOp, e1, e2, eqGuard, Sem.run_bind]; simp [hr], RV.bool g _⟩
theorem OpS.eqlNn {t t' et : TypeId} {x y : Operand} {e e' by_ : Nat} {b : Bool} {xs : List V} (hl : sliOf P t = some (et, e, b, by_)) (hx : E x = .sl e' .nn xs) (hy : E y = .nils) : OpS P ⟨dst, .binOp .eql t x y t', ty, pos, aft, gd⟩ E H (.bool false) H :=
  .quiet fun g rc w h _ => by
    obtain ⟨hut, _⟩ := sliOf_get hl
    obtain ⟨a, cap, e1, _, hnn, _⟩ := (hx ▸ h x (by simp [Op.operands])).sl_eq
    have e2 := (hy ▸ h y (by simp [Op.operands])).nils_eq
    have hr := run_eql_slice_nil (P := P) w t et a xs.length cap hut
    have hn : a.isNone = false := by cases a with
      | none => exact absurd rfl hnn
      | some _ => rfl
    exact ⟨.bool false, by simp only [execOp, e1, e2, eqGuard, Sem.run_bind]; simp [hr, hn], RV.bool g _⟩
end
end Go.Av
namespace Go.Av
theorem vsubr {v v' : V} {f : Nat → Nat} (h : v.sub v') (hl : v'.lt 0 = true) : v.sub (v'.ren f) := by rw [V.ren_closed f hl]; exact h
/-- A call that hands out new objects. -/
theorem OpS.callN {P : Program} {E : Operand → V} {H H3 : List AObj} {dst : Option Tmp} {ty : TypeId} {pos : String} {aft : Array Edge} {gd : Option (Nat × Bool)} {x : Operand} {args : Array Operand} {ats : Array TypeId} {f : FuncId} {first cap args' : List V} {Hc H0 H1 : List AObj} {v v2 : V}
    (hE : enters P f = true) (hx : E x = .fn f first cap) (ids : List Nat) (hs : CallSpec P f args' Hc fun o H' => o = .ret v ∧ H' = H0) (hnd : ids.Nodup) (hH : SelHS (fun k => ids.getD k 0) ids.length H ids Hc) (hl : V.ltL ids.length args' = true)
    (ha : SubL (first ++ args.toList.map E ++ cap) (V.renL (fun k => ids.getD k 0) args')) (hv : v.ren (back ids H.length) = v2) (hr : H0.map (AObj.ren (back ids H.length)) = H1) (h3 : setL H ids H1 = H3) :
    OpS P ⟨dst, .call ⟨.value x, args, ats⟩, ty, pos, aft, gd⟩ E H v2 H3 := .callH hE hx ids hs hnd hH hl ha hv hr h3
end Go.Av
