/- Operations over abstract values: calls, literals, what a function hands out. -/
import Derived.Test.YtdbiobndihpccabAvCore8
namespace Go.Av
set_option linter.unusedVariables false
set_option linter.unusedSimpArgs false

theorem V.sub.tok (e : Nat) (o : Nat) (xs : List V) : V.sub (.sl e .exact xs) (.sl e (.tok o) xs) := by
  intro g x h
  have h2 : RC g (.sl e .exact xs) x.cells.toList := h.2
  refine ⟨h.1, ?_⟩
  simp only [RC] at h2 ⊢
  obtain ⟨a, cap, h1, h3, h4, h5⟩ := h2
  exact ⟨a, cap, h1, h3, .inl h4, h5⟩
theorem V.sub.nils_tok (e : Nat) (o : Nat) : V.sub .nils (.sl e (.tok o) []) := (V.sub.nils e).trans (V.sub.tok e o _)

/-- An object of which nothing is known but that it may stand for the room behind a view. -/
theorem HR.vacant {g : Gh} {H : List AObj} {w : World} (h : HR g H w) : HR { g with ρ := g.ρ ++ [⟨0, 0, 0, true⟩] } (H ++ [.tail]) w := by
  have low : ∀ (a : Nat) (q : Place) (ob : AObj), (g.ρ ++ [(⟨0, 0, 0, true⟩ : Place)])[a]? = some q → (H ++ [.tail])[a]? = some ob → (q = ⟨0, 0, 0, true⟩ ∧ ob = .tail) ∨ (g.ρ[a]? = some q ∧ H[a]? = some ob) := by
    intro a q ob h1 h2
    rcases Nat.lt_or_ge a g.ρ.length with hl | hl
    · exact .inr ⟨by rwa [List.getElem?_append_left hl] at h1, by rwa [List.getElem?_append_left (h.len ▸ hl)] at h2⟩
    · have hlen : a < (g.ρ ++ [(⟨0, 0, 0, true⟩ : Place)]).length := (List.getElem?_eq_some_iff.1 h1).1
      have : a = g.ρ.length := by simp at hlen; omega
      subst this
      rw [List.getElem?_append_right (Nat.le_refl _)] at h1
      rw [h.len, List.getElem?_append_right (Nat.le_refl _)] at h2
      simp at h1 h2
      exact .inl ⟨h1.symm, h2.symm⟩
  refine ⟨h.agree, by simp [h.len], ?_, ?_⟩
  · intro a q ob h1 h2
    rcases low a q ob h1 h2 with ⟨rfl, rfl⟩ | ⟨h1, h2⟩
    · exact .inl rfl
    · exact (h.obj a q ob h1 h2).keep (g.le_push _) rfl (fun _ => rfl)
  · intro a a' q q' ob1 ob2 h1 h1' h2 h2' l1 l2 e
    rcases low a q ob1 h1 h2 with ⟨rfl, rfl⟩ | ⟨h1, h2⟩
    · simp [Place.own] at l1
    · rcases low a' q' ob2 h1' h2' with ⟨rfl, rfl⟩ | ⟨h1', h2'⟩
      · simp [Place.own] at l2
      · exact h.inj a a' q q' ob1 ob2 h1 h1' h2 h2' l1 l2 e

theorem Ev.vacant {g : Gh} {H : List AObj} {w : World} (h : HR g H w) : Ev g H w { g with ρ := g.ρ ++ [⟨0, 0, 0, true⟩] } (H ++ [.tail]) w where
  le := g.le_push _
  os := rfl
  tape := rfl
  output := rfl
  size := Nat.le_refl _
  drawn := Nat.le_refl _
  keep _ _ _ := rfl
  imm _ _ _ _ := rfl
  live b hb := by
    obtain ⟨a, q, ob, h1, h2, l1, e⟩ := hb
    rcases Nat.lt_or_ge a g.ρ.length with hl | hl
    · exact .inl ⟨a, q, ob, by rwa [List.getElem?_append_left hl] at h1, by rwa [List.getElem?_append_left (h.len ▸ hl)] at h2, l1, e⟩
    · have hlen : a < (g.ρ ++ [(⟨0, 0, 0, true⟩ : Place)]).length := (List.getElem?_eq_some_iff.1 h1).1
      have : a = g.ρ.length := by simp at hlen; omega
      subst this
      rw [List.getElem?_append_right (Nat.le_refl _)] at h1
      rw [h.len, List.getElem?_append_right (Nat.le_refl _)] at h2
      simp at h1 h2
      subst h1 h2
      simp [Place.own] at l1

theorem Wk.vacant {n m : Nat} {env : List (Nat × V)} {H : List AObj} : Wk n m ⟨env, H⟩ ⟨env, H ++ [.tail]⟩ :=
  fun _ g _ _ _ _ h1 h2 h3 => ⟨_, h1.mono (g.le_push _), h2.vacant, h3.trans (.vacant h2)⟩

/-! Numbers of objects, turned. -/

def Tk.ren (f : Nat → Nat) : Tk → Tk
  | .tok o => .tok (f o)
  | tk => tk

mutual
def V.ren (f : Nat → Nat) : V → V
  | .ptr o p off => .ptr (f o) p off
  | .cptr v => .cptr (v.ren f)
  | .sl e tk xs => .sl e (tk.ren f) (V.renL f xs)
  | .slo e o p off lo len cap => .slo e (f o) p off lo len cap
  | .fn g a b => .fn g (V.renL f a) (V.renL f b)
  | .ifc t v => .ifc t (v.ren f)
  | .st vs => .st (V.renL f vs)
  | .arr e vs => .arr e (V.renL f vs)
  | .tup vs => .tup (V.renL f vs)
  | .map o => .map (f o)
  | v => v
def V.renL (f : Nat → Nat) : List V → List V
  | [] => []
  | v :: vs => v.ren f :: V.renL f vs
end

mutual
theorem V.ren_closed (f : Nat → Nat) : ∀ {v : V}, v.lt 0 = true → v.ren f = v
  | .ptr _ _ _, h => by simp [V.lt] at h
  | .cptr v, h => by simp only [V.lt] at h; simp only [V.ren, V.ren_closed f h]
  | .sl e tk xs, h => by
    simp only [V.lt, Bool.and_eq_true] at h
    have ht : tk.ren f = tk := by
      cases tk with
      | tok o => simp [Tk.lt] at h
      | no => rfl
      | nn => rfl
      | exact => rfl
    simp only [V.ren, V.renL_closed f h.2, ht]
  | .slo _ _ _ _ _ _ _, h => by simp [V.lt] at h
  | .fn _ _ _, h => by simp only [V.lt, Bool.and_eq_true] at h; simp only [V.ren, V.renL_closed f h.1, V.renL_closed f h.2]
  | .ifc _ _, h => by simp only [V.lt] at h; simp only [V.ren, V.ren_closed f h]
  | .st _, h => by simp only [V.lt] at h; simp only [V.ren, V.renL_closed f h]
  | .arr _ _, h => by simp only [V.lt] at h; simp only [V.ren, V.renL_closed f h]
  | .tup _, h => by simp only [V.lt] at h; simp only [V.ren, V.renL_closed f h]
  | .map _, h => by simp [V.lt] at h
  | .bool _, _ => by simp only [V.ren]
  | .int _ _, _ => by simp only [V.ren]
  | .str _, _ => by simp only [V.ren]
  | .nilp, _ => by simp only [V.ren]
  | .nils, _ => by simp only [V.ren]
  | .nilfn, _ => by simp only [V.ren]
  | .nili, _ => by simp only [V.ren]
  | .nilmap, _ => by simp only [V.ren]
  | .undef, _ => by simp only [V.ren]
theorem V.renL_closed (f : Nat → Nat) : ∀ {vs : List V}, V.ltL 0 vs = true → V.renL f vs = vs
  | [], _ => rfl
  | _ :: _, h => by simp only [V.ltL, Bool.and_eq_true] at h; simp only [V.renL, V.ren_closed f h.1, V.renL_closed f h.2]
end

structure Gh.turned (f : Nat → Nat) (m : Nat) (g g' : Gh) : Prop where
  imm : ∀ b i x, g.I b i = some x → g'.I b i = some x
  pre : ∀ (o : Nat) p, o < m → g.ρ[f o]? = some p → g'.ρ[o]? = some p

theorem Tk.ok.turned {f : Nat → Nat} {m : Nat} {g g' : Gh} (h : g.turned f m g') {e : Nat} {tk : Tk} {a : Option Addr} {len cap : Nat} (hl : tk.lt m = true) (k : (tk.ren f).ok g e a len cap) : tk.ok g' e a len cap := by
  cases tk with
  | no => trivial
  | nn => exact k
  | exact => exact k
  | tok o =>
    rcases k with k | ⟨p, ad, h1, h2⟩
    · exact .inl k
    · exact .inr ⟨p, ad, h.pre _ _ (Eq.mp Nat.blt_eq hl) h1, h2⟩

theorem V.renL_length (f : Nat → Nat) : ∀ (vs : List V), (V.renL f vs).length = vs.length
  | [] => rfl
  | _ :: vs => by simp [V.renL, V.renL_length f vs]

theorem V.ren_isAgg (f : Nat → Nat) (v : V) : (v.ren f).isAgg = v.isAgg := by cases v <;> simp [V.ren, V.isAgg]

mutual
theorem RC.turned {f : Nat → Nat} {m : Nat} {g g' : Gh} (h : g.turned f m g') : ∀ {v : V} {cs : List Value}, v.lt m = true → RC g (v.ren f) cs → RC g' v cs
  | .bool _, _, _, k => by simpa only [V.ren, RC] using k
  | .int _ _, _, _, k => by simpa only [V.ren, RC] using k
  | .str _, _, _, k => by simpa only [V.ren, RC] using k
  | .nilp, _, _, k => by simpa only [V.ren, RC] using k
  | .ptr _ _ _, _, hl, k => by
    simp only [V.ren, RC] at k ⊢
    obtain ⟨p, h1, h2⟩ := k
    exact ⟨p, h.pre _ _ (Eq.mp Nat.blt_eq (by simpa only [V.lt] using hl)) h1, h2⟩
  | .cptr _, _, hl, k => by
    simp only [V.ren, RC] at k ⊢
    obtain ⟨a, c, h1, h2, h3, h4⟩ := k
    exact ⟨a, c, h1, h2, RC.turned h (by simpa only [V.lt] using hl) h3, fun i x hx => h.imm _ _ _ (h4 i x hx)⟩
  | .nils, _, _, k => by simpa only [V.ren, RC] using k
  | .sl _ _ _, _, hl, k => by
    simp only [V.lt, Bool.and_eq_true] at hl
    simp only [V.ren, RC, V.renL_length] at k ⊢
    obtain ⟨a, cap, h1, h2, h3, c, h4, h5, h6⟩ := k
    exact ⟨a, cap, h1, h2, h3.turned h hl.1, c, RCu.turned h hl.2 h4, h5, fun ad e => ⟨fun hn => (h6 ad e).1 (fun e => hn (List.eq_nil_of_length_eq_zero (by rw [← V.renL_length, e]; rfl))), fun i x hx => h.imm _ _ _ ((h6 ad e).2 i x hx)⟩⟩
  | .slo _ _ _ _ _ _ _, _, hl, k => by
    simp only [V.ren, RC] at k ⊢
    obtain ⟨p, h1, h2⟩ := k
    exact ⟨p, h.pre _ _ (Eq.mp Nat.blt_eq (by simpa only [V.lt] using hl)) h1, h2⟩
  | .fn _ _ _, _, hl, k => by
    simp only [V.lt, Bool.and_eq_true] at hl
    simp only [V.ren, RC] at k ⊢
    obtain ⟨a, b, h1, h2, h3⟩ := k
    exact ⟨a, b, h1, RVl.turned h hl.1 h2, RVl.turned h hl.2 h3⟩
  | .nilfn, _, _, k => by simpa only [V.ren, RC] using k
  | .ifc _ _, _, hl, k => by
    simp only [V.ren, RC] at k ⊢
    obtain ⟨x, h1, h2, h3⟩ := k
    exact ⟨x, h1, by rw [← h2, V.ren_isAgg], RC.turned h (by simpa only [V.lt] using hl) h3⟩
  | .nili, _, _, k => by simpa only [V.ren, RC] using k
  | .st _, _, hl, k => by
    simp only [V.ren, RC] at k ⊢
    exact RCs.turned h (by simpa only [V.lt] using hl) k
  | .arr _ _, _, hl, k => by
    simp only [V.ren, RC] at k ⊢
    exact RCu.turned h (by simpa only [V.lt] using hl) k
  | .tup _, _, _, k => by simp only [V.ren, RC] at k
  | .map _, _, hl, k => by
    simp only [V.ren, RC] at k ⊢
    obtain ⟨p, h1, h2⟩ := k
    exact ⟨p, h.pre _ _ (Eq.mp Nat.blt_eq (by simpa only [V.lt] using hl)) h1, h2⟩
  | .nilmap, _, _, k => by simpa only [V.ren, RC] using k
  | .undef, _, _, k => by simp only [V.ren, RC] at k
theorem RCs.turned {f : Nat → Nat} {m : Nat} {g g' : Gh} (h : g.turned f m g') : ∀ {vs : List V} {cs : List Value}, V.ltL m vs = true → RCs g (V.renL f vs) cs → RCs g' vs cs
  | [], _, _, k => by simpa only [V.renL, RCs] using k
  | _ :: _, _, hl, k => by
    simp only [V.ltL, Bool.and_eq_true] at hl
    simp only [V.renL, RCs] at k ⊢
    obtain ⟨a, b, h1, h2, h3⟩ := k
    exact ⟨a, b, h1, RC.turned h hl.1 h2, RCs.turned h hl.2 h3⟩
theorem RCu.turned {f : Nat → Nat} {m : Nat} {g g' : Gh} (h : g.turned f m g') : ∀ {e : Nat} {vs : List V} {cs : List Value}, V.ltL m vs = true → RCu g e (V.renL f vs) cs → RCu g' e vs cs
  | _, [], _, _, k => by simpa only [V.renL, RCu] using k
  | _, _ :: _, _, hl, k => by
    simp only [V.ltL, Bool.and_eq_true] at hl
    simp only [V.renL, RCu] at k ⊢
    obtain ⟨a, b, h1, h0, h2, h3⟩ := k
    exact ⟨a, b, h1, h0, RC.turned h hl.1 h2, RCu.turned h hl.2 h3⟩
theorem RVl.turned {f : Nat → Nat} {m : Nat} {g g' : Gh} (h : g.turned f m g') : ∀ {vs : List V} {cs : List Value}, V.ltL m vs = true → RVl g (V.renL f vs) cs → RVl g' vs cs
  | [], _, _, k => by simpa only [V.renL, RVl] using k
  | _ :: _, _, hl, k => by
    simp only [V.ltL, Bool.and_eq_true] at hl
    simp only [V.renL, RVl] at k ⊢
    obtain ⟨a, b, h1, h0, h2, h3⟩ := k
    exact ⟨a, b, h1, by rw [← h0, V.ren_isAgg], RC.turned h hl.1 h2, RVl.turned h hl.2 h3⟩
end

theorem RV.turned {f : Nat → Nat} {m : Nat} {g g' : Gh} (h : g.turned f m g') {v : V} {x : Value} (hl : v.lt m = true) (k : RV g (v.ren f) x) : RV g' v x := by
  by_cases hu : v = .undef
  · subst hu; trivial
  by_cases ht : ∃ vs, v = .tup vs
  · obtain ⟨vs, rfl⟩ := ht
    simp only [V.lt] at hl
    simp only [V.ren] at k
    obtain ⟨xs, e, k⟩ := k
    exact ⟨xs, e, k.turned h hl⟩
  have hk : okV v = true := by cases v <;> first | rfl | exact absurd rfl hu | exact absurd ⟨_, rfl⟩ ht
  have hk' : okV (v.ren f) = true := by cases v <;> simp_all [V.ren, okV]
  obtain ⟨h1, h2⟩ := k.ok hk'
  exact RV.of (by rw [← h1, V.ren_isAgg]) (h2.turned h hl)

def esRen (f : Nat → Nat) : List (V × V) → List (V × V)
  | [] => []
  | kv :: r => (kv.1.ren f, kv.2.ren f) :: esRen f r

def AObj.ren (f : Nat → Nat) : AObj → AObj
  | .cells v => .cells (v.ren f)
  | .buf e vs => .buf e (V.renL f vs)
  | .map es => .map (esRen f es)
  | ob => ob

theorem REs.turned {f : Nat → Nat} {m : Nat} {g g' : Gh} (h : g.turned f m g') : ∀ {es : List (V × V)} {l : List MapEntry}, esLt m es = true → REs g (esRen f es) l → REs g' es l
  | [], _, _, k => k
  | _ :: _, _, hl, k => by
    simp only [esLt, Bool.and_eq_true] at hl
    obtain ⟨e, es, h1, h2, h3, h4⟩ := k
    exact ⟨e, es, h1, h2.turned h hl.1.1, h3.turned h hl.1.2, REs.turned h hl.2 h4⟩

mutual
theorem flen_ren (f : Nat → Nat) : ∀ (v : V), flen (v.ren f) = flen v
  | .st vs => by simp only [V.ren, flen]; exact flenL_ren f vs
  | .arr e vs => by simp only [V.ren, flen, V.renL_length]
  | .ptr _ _ _ => by simp only [V.ren, flen]
  | .cptr _ => by simp only [V.ren, flen]
  | .sl _ _ _ => by simp only [V.ren, flen]
  | .slo _ _ _ _ _ _ _ => by simp only [V.ren, flen]
  | .fn _ _ _ => by simp only [V.ren, flen]
  | .ifc _ _ => by simp only [V.ren, flen]
  | .tup _ => by simp only [V.ren, flen]
  | .map _ => by simp only [V.ren, flen]
  | .bool _ => by simp only [V.ren]
  | .int _ _ => by simp only [V.ren]
  | .str _ => by simp only [V.ren]
  | .nilp => by simp only [V.ren]
  | .nils => by simp only [V.ren]
  | .nilfn => by simp only [V.ren]
  | .nili => by simp only [V.ren]
  | .nilmap => by simp only [V.ren]
  | .undef => by simp only [V.ren]
theorem flenL_ren (f : Nat → Nat) : ∀ (vs : List V), flenL (V.renL f vs) = flenL vs
  | [] => rfl
  | v :: vs => by simp only [V.renL, flenL, flen_ren f v, flenL_ren f vs]
end

/-- Objects numbered anew; those that are left out nothing names any more. -/
inductive SelE (f : Nat → Nat) (m : Nat) (env : List (Nat × V)) : List (Nat × V) → Prop where
  | nil : SelE f m env []
  | cons {t : Nat} {v : V} {r : List (Nat × V)} (hl : v.lt m = true) (hs : (look env t).sub (v.ren f)) (k : SelE f m env r) : SelE f m env ((t, v) :: r)

inductive SelH (f : Nat → Nat) (m : Nat) (H : List AObj) : List Nat → List AObj → Prop where
  | nil : SelH f m H [] []
  | cons {i : Nat} {ob : AObj} {is : List Nat} {r : List AObj} (hl : ob.lt m = true) (hs : H[i]? = some (ob.ren f)) (k : SelH f m H is r) : SelH f m H (i :: is) (ob :: r)

theorem SelE.look {f : Nat → Nat} {m : Nat} {env env' : List (Nat × V)} (h : SelE f m env env') (t : Nat) : (look env' t).lt m = true ∧ ((Av.look env t).sub ((Av.look env' t).ren f)) := by
  induction h with
  | nil => exact ⟨rfl, .undef _⟩
  | cons hl hs _ ih =>
    simp only [look_cons]
    split
    · rename_i e; subst e; exact ⟨hl, hs⟩
    · exact ih

theorem SelH.get {f : Nat → Nat} {m : Nat} {H H' : List AObj} {ids : List Nat} (h : SelH f m H ids H') : ids.length = H'.length ∧ ∀ (k : Nat) (ob : AObj), H'[k]? = some ob → ∃ i, ids[k]? = some i ∧ ob.lt m = true ∧ H[i]? = some (ob.ren f) := by
  induction h with
  | nil => exact ⟨rfl, fun k ob h => by simp at h⟩
  | cons hl hs _ ih =>
    refine ⟨by simp [ih.1], fun k ob h => ?_⟩
    cases k with
    | zero => simp at h; subst h; exact ⟨_, rfl, hl, hs⟩
    | succ k => simp at h; exact ih.2 k ob h

theorem Wk.sel {n m : Nat} {s : St} (ids : List Nat) {env' : List (Nat × V)} {H' : List AObj}
    (hnd : ids.Nodup) (hm : ids.take m = List.range m) (he : SelE (fun k => ids.getD k 0) ids.length s.env env') (hH : SelH (fun k => ids.getD k 0) ids.length s.H ids H') : Wk n m s ⟨env', H'⟩ := by
  intro B g a w b1 b2 h1 h2 h3
  obtain ⟨hlen, hget⟩ := hH.get
  let ρ' := ids.map fun i => g.ρ.getD i ⟨0, 0, 0, true⟩
  have hρ : ∀ (k : Nat) (p : Place), k < ids.length → g.ρ[ids.getD k 0]? = some p → ρ'[k]? = some p := by
    intro k p hk hp
    simp only [ρ', List.getElem?_map]
    have : ids[k]? = some (ids.getD k 0) := by simp [List.getD, hk]
    rw [this, Option.map_some, List.getD_eq_getElem?_getD (l := g.ρ), hp]
    rfl
  have hρ' : ∀ (k : Nat) (q : Place) (ob : AObj), ρ'[k]? = some q → H'[k]? = some ob → ∃ i, ids[k]? = some i ∧ ob.lt ids.length = true ∧ s.H[i]? = some (ob.ren (fun k => ids.getD k 0)) ∧ g.ρ[i]? = some q := by
    intro k q ob hq hob
    obtain ⟨i, h1, h2, h3⟩ := hget k ob hob
    refine ⟨i, h1, h2, h3, ?_⟩
    simp only [ρ', List.getElem?_map, h1, Option.map_some, Option.some.injEq] at hq
    have hi : i < g.ρ.length := by rw [‹HR g s.H w›.len]; exact (List.getElem?_eq_some_iff.1 h3).1
    rw [← hq]
    simp [List.getD, hi]
  have tr : g.turned (fun k => ids.getD k 0) ids.length { g with ρ := ρ' } := ⟨fun _ _ _ h => h, fun o p ho hp => hρ o p ho hp⟩
  have own : ∀ (q : Place) (ob : AObj), q.own (ob.ren (fun k => ids.getD k 0)) = q.own ob := by intro q ob; cases ob <;> rfl
  refine ⟨{ g with ρ := ρ' }, ⟨fun t => ?_, h1.size, h1.defers⟩, ⟨h2.agree, by simp [ρ', hlen], ?_, ?_⟩, ?_⟩
  · obtain ⟨q1, q2⟩ := he.look t
    exact (q2 g _ (h1.env t)).turned tr q1
  · intro k q ob hq hob
    obtain ⟨i, e1, e2, e3, e4⟩ := hρ' k q ob hq hob
    have := h2.obj i q _ e4 e3
    cases ob with
    | cells v =>
      obtain ⟨cs, cty, q1, ⟨j, q2, q3⟩, q4⟩ := this
      simp only [flen_ren] at q2 q3
      exact ⟨cs, cty, q1, ⟨j, q2, q3.turned tr (by simpa only [AObj.lt] using e2)⟩, q4⟩
    | buf e vs =>
      rcases this with ⟨x, y⟩ | ⟨q0, cs, ty, q1, ⟨c, j, q2, q3⟩, q4⟩
      · exact .inl ⟨x, List.eq_nil_of_length_eq_zero (by rw [← V.renL_length (fun k => ids.getD k 0), y]; rfl)⟩
      · exact .inr ⟨q0, cs, ty, q1, ⟨c, j, q2, q3.turned tr (by simpa only [AObj.lt] using e2)⟩, q4⟩
    | tail => exact this
    | map es => obtain ⟨en, cl, q1, q2, q3⟩ := this; exact ⟨en, cl, q1, q2.turned tr (by simpa only [AObj.lt] using e2), q3⟩
    | dead => trivial
  · intro k k' q q' ob1 ob2 hq hq' ho ho' l1 l2 e
    obtain ⟨i, e1, _, e3, e4⟩ := hρ' k q ob1 hq ho
    obtain ⟨i', e1', _, e3', e4'⟩ := hρ' k' q' ob2 hq' ho'
    have hii := h2.inj i i' q q' _ _ e4 e4' e3 e3' (by rw [own]; exact l1) (by rw [own]; exact l2) e
    subst hii
    have hk := (List.getElem?_eq_some_iff.1 e1).1
    have hk' := (List.getElem?_eq_some_iff.1 e1').1
    exact (List.getElem_inj (h₀ := hk) (h₁ := hk') hnd).1 (by rw [(List.getElem?_eq_some_iff.1 e1).2, (List.getElem?_eq_some_iff.1 e1').2])
  · refine ⟨⟨h3.le.imm, fun o p hp => ?_⟩, h3.os, h3.tape, h3.output, h3.size, h3.drawn, h3.keep, h3.imm, ?_⟩
    · have ho : o < m := by rw [← b2]; exact (List.getElem?_eq_some_iff.1 hp).1
      have hlt : (ids.take m).length = m := by rw [hm]; simp
      have hol : o < ids.length := by rw [List.length_take] at hlt; omega
      refine hρ o p hol ?_
      have : ids.getD o 0 = o := by
        have h5 : (ids.take m)[o]? = some o := by rw [hm]; simp [ho]
        rw [List.getElem?_take_of_lt ho] at h5
        simp [List.getD, h5]
      rw [this]
      exact h3.le.pre o p hp
    · rintro b ⟨k, q, ob, hq, hob, l1, e⟩
      obtain ⟨i, _, _, e3, e4⟩ := hρ' k q ob hq hob
      exact h3.live b ⟨i, q, _, e4, e3, by rw [own]; exact l1, e⟩

/-! Calls. -/

def enters (P : Program) (f : FuncId) : Bool :=
  match P.funcs[f]? with
  | some fn => fn.name != "runtime.NumGoroutine" && fn.body.isSome
  | none => false

/-- A call that only computes. -/
def PureC (P : Program) (f : FuncId) (args : List V) (r : V) : Prop := ∀ H, CallSpec P f args H fun o H' => o = .ret r ∧ H' = H

theorem PureC.of {P : Program} {f : FuncId} {args : List V} {r : V} (h : CallSpec P f args [] fun o _ => o = .ret r) (ha : V.ltL 0 args = true) (hr : r.lt 0 = true) : PureC P f args r :=
  fun H => (h.frame ha (fun o _ e => by subst e; exact hr) H).mono fun _ _ ⟨⟨_, h1⟩, h2⟩ => ⟨h1, h2⟩

theorem PureC.sub {P : Program} {f : FuncId} {args args' : List V} {r : V} (h : PureC P f args' r) (k : SubL args args') : PureC P f args r := fun H => (h H).sub k

def okL : List V → Bool
  | [] => true
  | v :: vs => okV v && okL vs

theorem RVl.rvs {g : Gh} : ∀ {vs : List V} {xs : List Value}, RVl g vs xs → RVs g vs xs
  | [], _, h => by simp only [RVl] at h; exact h
  | _ :: _, _, h => by
    simp only [RVl] at h
    obtain ⟨x, r, rfl, h1, h2, h3⟩ := h
    exact ⟨x, r, rfl, RV.of h1 h2, h3.rvs⟩

theorem RVs.append {g : Gh} : ∀ {vs vs' : List V} {xs xs' : List Value}, RVs g vs xs → RVs g vs' xs' → RVs g (vs ++ vs') (xs ++ xs')
  | [], _, _, _, h, k => by simp only [RVs] at h; subst h; exact k
  | _ :: _, _, _, _, h, k => by
    obtain ⟨x, r, rfl, h1, h2⟩ := h
    exact ⟨x, _, rfl, h1, h2.append k⟩

theorem RVs.map {g : Gh} {E : Operand → V} {rc : Operand → Value} : ∀ {l : List Operand}, (∀ x ∈ l, RV g (E x) (rc x)) → RVs g (l.map E) (l.map rc)
  | [], _ => rfl
  | x :: l, h => ⟨rc x, _, rfl, h x (by simp), RVs.map fun y hy => h y (by simp [hy])⟩

theorem RVs.rvl {g : Gh} : ∀ {vs : List V} {xs : List Value}, RVs g vs xs → okL vs = true → RVl g vs xs
  | [], _, h, _ => by simp only [RVl]; exact h
  | _ :: _, _, h, hk => by
    simp only [okL, Bool.and_eq_true] at hk
    obtain ⟨x, r, rfl, h1, h2⟩ := h
    simp only [RVl]
    obtain ⟨q1, q2⟩ := h1.ok hk.1
    exact ⟨x, r, rfl, q1, q2, h2.rvl hk.2⟩

section
variable {P : Program} {E : Operand → V} {H H' : List AObj} {dst : Option Tmp} {ty : TypeId} {pos : String} {aft : Array Edge} {gd : Option (Nat × Bool)}

theorem RV.fn_eq {g : Gh} {f : FuncId} {a b : List V} {x : Value} (h : RV g (.fn f a b) x) : ∃ a' b' : Array Value, x = .func (.func f) a' b' ∧ RVl g a a'.toList ∧ RVl g b b'.toList := by
  have := h.leafval rfl rfl
  simp only [RC, List.cons.injEq, and_true] at this
  exact this

theorem OpS.call {x : Operand} {args : Array Operand} {ats : Array TypeId} {f : FuncId} {first cap : List V} {v : V} {R : Out → List AObj → Prop} (hE : enters P f = true) (hx : E x = .fn f first cap)
    (hs : CallSpec P f (first ++ args.toList.map E ++ cap) H R) (hR : ∀ o H'', R o H'' → o = .ret v ∧ H'' = H') : OpS P ⟨dst, .call ⟨.value x, args, ats⟩, ty, pos, aft, gd⟩ E H v H' := by
  intro g rc w h hr
  obtain ⟨a', b', e, h1, h2⟩ := (hx ▸ h x (by simp [Op.operands, Call.operands])).fn_eq
  have hargs : RVs g (args.toList.map E) (args.toList.map rc) := RVs.map fun y hy => h y (by simp [Op.operands, Call.operands]; exact .inr (by simpa using hy))
  have hall := (h1.rvs.append hargs).append h2.rvs
  have hrun : (execOp rc ⟨dst, .call ⟨.value x, args, ats⟩, ty, pos, aft, gd⟩).run P w = .ok (.enter f (a' ++ args.map rc ++ b')) w := by
    unfold enters at hE
    split at hE
    · rename_i fn hfn
      simp only [Bool.and_eq_true, bne_iff_ne, ne_eq] at hE
      have hb : ¬ fn.body = none := by intro hq; rw [hq] at hE; simp at hE
      simp [execOp, resolve, e, Deferred.ofValue, invoke, callFunc, hfn, hE.1, hb]
    · cases hE
  rw [hrun]
  refine Calls.mono (R := fun e w' => ∃ g' H'' o, R o H'' ∧ OutRel g' e o ∧ HR g' H'' w' ∧ Ev g H w g' H'' w') ?_ ?_
  · have := hs g w (a'.toList ++ args.toList.map rc ++ b'.toList) hall hr
    have e2 : (a'.toList ++ args.toList.map rc ++ b'.toList).toArray = a' ++ args.map rc ++ b' := by apply Array.ext'; simp
    rwa [e2] at this
  · rintro e w' ⟨g', H'', o, q1, q2, q3, q4⟩
    obtain ⟨rfl, rfl⟩ := hR o H'' q1
    cases e <;> simp only [OutRel] at q2
    exact ⟨g', q2, q3, q4⟩

/-- A call that only computes: whatever objects there are. -/
theorem OpS.callP {x : Operand} {args : Array Operand} {ats : Array TypeId} {f : FuncId} {first cap args' : List V} {v : V} (hE : enters P f = true) (hx : E x = .fn f first cap)
    (hs : PureC P f args' v) (ha : SubL (first ++ args.toList.map E ++ cap) args') : OpS P ⟨dst, .call ⟨.value x, args, ats⟩, ty, pos, aft, gd⟩ E H v H :=
  .call hE hx (hs.sub ha H) fun _ _ h => h

theorem OpS.makeFunc {f : FuncId} {first cap : Array Operand} {a b : List V} (ha : first.toList.map E = a) (hb : cap.toList.map E = b) (hk : okL a = true) (hk' : okL b = true) :
    OpS P ⟨dst, .makeFunc (.func f) first cap, ty, pos, aft, gd⟩ E H (.fn f a b) H :=
  .quiet fun g rc w h _ => by
    subst ha hb
    refine ⟨.func (.func f) (first.map rc) (cap.map rc), by simp [execOp, Instr.makeFunc], RV.of_leaf rfl ?_⟩
    simp only [RC]
    refine ⟨_, _, rfl, ?_, ?_⟩
    · have := (RVs.map (g := g) (E := E) (rc := rc) (l := first.toList) fun y hy => h y (by simp [Op.operands]; exact .inl (by simpa using hy))).rvl hk
      simpa using this
    · have := (RVs.map (g := g) (E := E) (rc := rc) (l := cap.toList) fun y hy => h y (by simp [Op.operands]; exact .inr (by simpa using hy))).rvl hk'
      simpa using this

end

end Go.Av
