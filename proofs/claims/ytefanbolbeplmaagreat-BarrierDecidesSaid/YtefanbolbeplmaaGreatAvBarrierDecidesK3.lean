/- Abstract values over the model, rules for walks. -/
import Derived.Test.YtefanbolbeplmaaGreatAvBarrierDecidesK2
set_option linter.unusedSimpArgs false
set_option linter.unusedVariables false
set_option linter.unusedSectionVars false
namespace Go.Av
variable {ats : Array TypeId} {m o : Nat}
section
variable {args' us : List V} {ob : aK}

abbrev I : Int → V := V.int .i64
class LtV (v : V) : Prop where p : ∀ m, v.lt m = true
class LtL (vs : List V) : Prop where p : ∀ m, V.ltL m vs = true
class LtE (e : List (Nat × V)) : Prop where p : ∀ x ∈ e, ∀ m, x.2.lt m = true
class TyC {α : Type} (f : α → V) (n : outParam Nat) (b : outParam Bool) : Prop where ok : aM f n b
class FlV (v : V) (n : outParam Nat) : Prop where p : flen v = n
class FlL (vs : List V) (n : outParam Nat) : Prop where p : flenL vs = n
class FlT (vs : List V) (k : Nat) (n : outParam Nat) : Prop where p : flenL (vs.take k) = n
class SzT (P : Program) (t : TypeId) (n : outParam Nat) : Prop where p : szOf P t = some n
class AgT (P : Program) (t : TypeId) (b : outParam Bool) : Prop where p : aggOf P t = some b
class LayT (P : Program) (t : TypeId) (l : outParam (List (Nat × Nat × Bool))) : Prop where p : layOf P t = some l
class EnT (P : Program) (f : FuncId) : Prop where p : enters P f = true
instance {k : IntKind} : TyC (V.int k) 1 false := ⟨.int k⟩
instance : TyC V.bool 1 false := ⟨.bool⟩
instance : TyC V.str 1 false := ⟨.str⟩
section
variable {α : Type} {f : α → V} {n k e a b c o : Nat} {q : Bool} {xs : List α} {vs ws : List V} {v w : V} {g : FuncId} {kd : IntKind} {m : Int} {z : Bool} {s : ByteArray} {t : Nat} {tk : Tk}
instance : LtV (.int kd m) := ⟨fun _ => rfl⟩
instance : LtV (.bool z) := ⟨fun _ => rfl⟩
instance : LtV (.str s) := ⟨fun _ => rfl⟩
instance : LtV .nils := ⟨fun _ => rfl⟩
instance : LtV .nilp := ⟨fun _ => rfl⟩
instance : LtV .nilfn := ⟨fun _ => rfl⟩
instance : LtV .nili := ⟨fun _ => rfl⟩
instance : LtV .nilmap := ⟨fun _ => rfl⟩
instance : LtL [] := ⟨fun _ => rfl⟩
instance [h : LtV v] [r : LtL vs] : LtL (v :: vs) := ⟨fun m => aG (h.p m) (r.p m)⟩
instance [TyC f n q] : LtL (xs.map f) := ⟨fun m => (TyC.ok (f := f)).ltm m xs⟩
instance [h : LtV v] : LtV (.cptr v) := ⟨fun m => lt_cptr (h.p m)⟩
instance [h : LtL vs] : LtV (.st vs) := ⟨fun m => lt_st (h.p m)⟩
instance [h : LtL vs] : LtV (.tup vs) := ⟨fun m => lt_tup (h.p m)⟩
instance [h : LtL vs] : LtV (.arr e vs) := ⟨fun m => by simp only [V.lt]; exact h.p m⟩
instance [h : LtL vs] : LtV (.sl e .no vs) := ⟨fun m => lt_sl rfl (h.p m)⟩
instance [h : LtL vs] : LtV (.sl e .exact vs) := ⟨fun m => lt_sl rfl (h.p m)⟩
instance [h : LtL vs] [r : LtL ws] : LtV (.fn g vs ws) := ⟨fun m => lt_fn (h.p m) (r.p m)⟩
instance : LtE [] := ⟨fun _ h => by cases h⟩
instance {r : List (Nat × V)} [h : LtV v] [k : LtE r] : LtE ((t, v) :: r) := ⟨fun x hx m => by
 rcases List.mem_cons.1 hx with rfl | hx
 ·exact h.p m
 ·exact k.p x hx m⟩
instance : FlV (.int kd m) 1 := ⟨rfl⟩
instance : FlV (.bool z) 1 := ⟨rfl⟩
instance : FlV (.str s) 1 := ⟨rfl⟩
instance : FlV .nils 1 := ⟨rfl⟩
instance : FlV .nilp 1 := ⟨rfl⟩
instance : FlV .nilfn 1 := ⟨rfl⟩
instance : FlV .nili 1 := ⟨rfl⟩
instance : FlV .nilmap 1 := ⟨rfl⟩
instance : FlV (.cptr v) 1 := ⟨rfl⟩
instance : FlV (.sl e tk vs) 1 := ⟨rfl⟩
instance {p : List Nat} : FlV (.ptr o p a) 1 := ⟨rfl⟩
instance {p : List Nat} : FlV (.slo e o p a b c n) 1 := ⟨rfl⟩
instance : FlV (.fn g vs ws) 1 := ⟨rfl⟩
instance [h : FlL vs a] : FlV (.st vs) a := ⟨fl_st h.p⟩
instance {x : Vector α k} : FlV (.arr e (x.toList.map f)) (k * e) := ⟨by simp [flen]⟩
instance : FlV (.arr e (List.replicate k v)) (k * e) := ⟨by simp [flen]⟩
instance [h : LtV v] : LtL (List.replicate k v) := ⟨fun m => by
 induction k with
 | zero => rfl
 | succ k ih => exact aG (h.p m) ih⟩
instance : FlL [] 0 := ⟨rfl⟩
instance [h : FlV v a] [r : FlL vs b] : FlL (v :: vs) (a + b) := ⟨flL_c h.p r.p⟩
instance : FlT vs 0 0 := ⟨rfl⟩
instance [h : FlV v a] [r : FlT vs k b] : FlT (v :: vs) (k + 1) (a + b) := ⟨by rw [List.take_succ_cons]; exact flL_c h.p r.p⟩
end
/-- What stands at these places. -/
def sel (env : List (Nat × V)) : List Nat → Option (List (Nat × V))
 | [] => some []
 | k :: ks => match kq env k with
  | some p => match sel env ks with
   | some r => some (p :: r)
   | none => none
  | none => none
def selp (env : List (Nat × V)) : List Nat → Option (List (Nat × V))
 | [] => some []
 | k :: ks => match kp env k with
  | some p => match selp env ks with
   | some r => some (p :: r)
   | none => none
  | none => none
theorem sel_cons {env r : List (Nat × V)} {k : Nat} {ks : List Nat} (h : sel env (k :: ks) = some r) : ∃ t v r', r = (t, v) :: r' ∧ kq env k = some (t, v) ∧ sel env ks = some r' := by
 simp only [sel] at h
 split at h
 ·rename_i p hp
  split at h
  ·rename_i r' hr
   cases h
   exact ⟨p.1, p.2, r', rfl, hp, hr⟩
  ·cases h
 ·cases h
theorem selp_cons {env r : List (Nat × V)} {k : Nat} {ks : List Nat} (h : selp env (k :: ks) = some r) : ∃ t v r', r = (t, v) :: r' ∧ kp env k = some (t, v) ∧ selp env ks = some r' := by
 simp only [selp] at h
 split at h
 ·rename_i p hp
  split at h
  ·rename_i r' hr
   cases h
   exact ⟨p.1, p.2, r', rfl, hp, hr⟩
  ·cases h
 ·cases h
theorem lw {env : List (Nat × V)} {t : Nat} {v : V} (k : Nat) (h : kp env k = some (t, v)) : look env t = v := kp_get h
section
variable {f : Nat → Nat} {m t e i : Nat} {env r : List (Nat × V)} {v v0 : V} {H : List aK} {is : List Nat} {rs : List aK}
theorem lp (k : Nat) [L : LtV v] (h : kq env k = some (t, v0)) (p : RSub v0 v) (q : SelE f m env r) : SelE f m env ((t, v) :: r) := .leaf (kq_get h).1 (kq_get h).2 p L.p q
theorem sl (ks : List Nat) [L : LtE r] (h : sel env ks = some r) : SelE f m env r := by
 induction ks generalizing r with
 | nil => cases h; exact .nil
 | cons k ks ih =>
  obtain ⟨t, v, r', rfl, h1, h2⟩ := sel_cons h
  exact .leaf (kq_get h1).1 (kq_get h1).2 (.refl _) (fun m => L.p (t, v) (by simp) m) (@ih r' ⟨fun x hx => L.p x (by simp [hx])⟩ h2)
theorem hc [L : LtV v] (hi : H[i]? = some (.cells v0)) (p : RSub v0 v) (k : SelHS f m H is rs) : SelHS f m H (i :: is) (.cells v :: rs) := .cons (lt_cells (L.p m)) hi (RSub.trans p (.eq (V.ren_closed f (L.p 0)).symm)) k
theorem hb {α : Type} {F : α → V} {n : Nat} {b : Bool} [T : TyC F n b] {xs : List α} (hi : H[i]? = some (.buf e (xs.map F))) (k : SelHS f m H is rs) : SelHS f m H (i :: is) (.buf e (xs.map F) :: rs) := .cons (lt_buf T.ok) hi ⟨rfl, RSubL.leafr T.ok _ rfl⟩ k
end
section
variable {P : Program} {fn : Func} {n m : Nat} {env : List (Nat × V)} {H : List aK} {v v0 : V} {Q : AEx → St → Prop}
theorem Pr {c : Code} {e : List (Nat × V)} (ks : List Nat) (h : selp env ks = some e) (q : AWp P n m c Q ⟨e, H⟩) : AWp P n m c Q ⟨env, H⟩ := by
 refine AWp.prune (env' := e) ?_ q
 clear q
 induction ks generalizing e with
 | nil => cases h; exact .nil
 | cons k ks ih =>
  obtain ⟨t, v, r', rfl, h1, h2⟩ := selp_cons h
  exact .e k h1 (ih h2)
/-- No slot twice. -/
def ndp : List (Nat × V) → Bool
 | [] => true
 | (t, _) :: r => !(hasT t r) && ndp r
where hasT (t : Nat) : List (Nat × V) → Bool
 | [] => false
 | (u, _) :: r => Nat.beq t u || hasT t r
theorem ndp_nd : ∀ {e : List (Nat × V)}, ndp e = true → (e.map (·.1)).Nodup
 | [], _ => .nil
 | (t, v) :: r, h => by
  simp only [ndp, Bool.and_eq_true, Bool.not_eq_true'] at h
  rw [List.map_cons, List.nodup_cons]
  refine ⟨?_, ndp_nd h.2⟩
  have : ∀ l : List (Nat × V), ndp.hasT t l = false → t ∉ l.map (·.1) := by
   intro l
   induction l with
   | nil => intro _ k; cases k
   | cons x l ih =>
    intro k
    simp only [ndp.hasT, Bool.or_eq_false_iff] at k
    rw [List.map_cons, List.mem_cons]
    rintro (q | q)
    ·subst q; simp at k
    ·exact ih k.2 q
  exact this r h.1
/-- Values are told, and no object of one's own is left. -/
theorem eN {e : List (Nat × V)} (ks : List Nat) (h : sel env ks = some e) [LtE e] (hr : fn.results.toList = e.map fun x => .tmp x.1) (h1 : (e.length == 1) = false) (hn' : ndp e = true) (he : V.tup (e.map (·.2)) = v) : endF P fn n 0 (fun o H'' => o = .ret v ∧ H'' = []) .ret ⟨env, H⟩ := by
 have hn := ndp_nd hn'
 have hk : ∀ x ∈ e, okV x.2 = true := by
  clear hr h1 hn hn' he
  induction ks generalizing e with
  | nil => cases h; intro x hx; cases hx
  | cons k ks ih =>
   obtain ⟨t, v, r', rfl, q1, q2⟩ := sel_cons h
   intro x hx
   rcases List.mem_cons.1 hx with rfl | hx
   ·exact (kq_get q1).2
   ·exact @ih r' q2 ⟨fun x hx => LtE.p (e := (t, v) :: r') x (by simp [hx])⟩ x hx
 have hl : ∀ (l : List (Nat × V)), (l.map (·.1)).Nodup → ∀ x ∈ l, look l x.1 = x.2 := by
  intro l
  induction l with
  | nil => intro _ x hx; cases hx
  | cons y l ih =>
   intro hn x hx
   rw [List.map_cons, List.nodup_cons] at hn
   rcases List.mem_cons.1 hx with rfl | hx
   ·exact l0
   ·have hne : Nat.beq x.1 y.1 = false := by
     rw [Bool.eq_false_iff]
     intro q
     have q' : x.1 = y.1 := Nat.eq_of_beq_eq_true q
     exact hn.1 (q' ▸ List.mem_map_of_mem (f := fun z : Nat × V => z.1) hx)
    show (bif Nat.beq x.1 y.1 then y.2 else look l x.1) = x.2
    rw [hne]
    exact ih hn.2 x hx
 refine endFN hr (Wk.selS [] .nil rfl (sl ks h) .nil) (vs := e.map (·.2)) ?_ (by simpa using h1) he rfl
 have : ∀ l : List (Nat × V), (∀ x ∈ l, look e x.1 = x.2 ∧ okV x.2 = true) → ResL P ⟨e, []⟩ (l.map fun x => ResultVar.tmp x.1) (l.map (·.2)) := by
  intro l
  induction l with
  | nil => exact fun _ => .nil
  | cons x l ih =>
   intro hx
   exact .cons (.tmp (hx x (by simp)).1 (hx x (by simp)).2) (ih fun y hy => hx y (by simp [hy]))
 exact this e fun x hx => ⟨hl e hn x hx, hk x hx⟩
theorem e2 (k : Nat) {t : Nat} [L : LtV v] (hr : fn.results = #[.tmp t]) (h : kq env k = some (t, v)) : endF P fn n 0 (fun o H'' => o = .ret v ∧ H'' = []) .ret ⟨env, H⟩ := e1 k hr h (.refl _) (L.p _) (kq_get h).2
theorem e3 (k : Nat) {t : Nat} [L : LtV v] (hr : fn.results = #[.tmp t]) (h : kq env k = some (t, v0)) (p : RSub v0 v) (hv : okV v = true) : endF P fn n 0 (fun o H'' => o = .ret v ∧ H'' = []) .ret ⟨env, H⟩ := e1 k hr h p (L.p _) hv
theorem PureC.c {f : FuncId} {fn : Func} {c : Code} {args : List V} {r : V} [A : LtL args] [R : LtV r] (n : Nat) (hf : P.funcs[f]? = some fn) (hb : fn.body = some c) (hnn : fn.ntmps = n) (hn : Nat.ble args.length n = true)
  (h : AWp P n 0 c (endF P fn n 0 fun o H' => o = .ret r ∧ H' = []) ⟨argEnv 0 args, []⟩) : PureC P f args r := .b n hf hb hnn hn (A.p 0) (R.p 0) h
end
section
variable {P : Program} {ops : Array Oper} {n i : Nat} {ord l : List Nat} {acc : List Kd} {Q : AEx → St → Prop} {o : Oper} {F : List aK → Prop} {draw : Bool} {v w : V} {env : List (Nat × V)} {H H1 : List aK} {d : Nat}
theorem Sn (H2 : List aK) (ho : ops[i]? = some o) (hd : dstNo o = true) (h : OpS P o (ev env) H v H1) (e : H1 = H2) (hF : F H2) (t : Run F draw P ops n ord l (.eff :: acc) Q ⟨env, H2⟩) : Run F draw P ops n ord (i :: l) acc Q ⟨env, H⟩ :=
 S.effN ho hd (h.nf rfl e) hF t
theorem Sv (w : V) (H2 : List aK) (ho : opd ops n i = some (d, o)) (h : OpS P o (ev env) H v H1) (hv : v = w) (e : H1 = H2) (hF : F H2) (t : Run F draw P ops n ord l (.eff :: acc) Q ⟨(d, w) :: env, H2⟩) : Run F draw P ops n ord (i :: l) acc Q ⟨env, H⟩ :=
 Se ho (h.nf hv e) hF t
end
section
variable {P : Program} {E : Operand → V} {H H2 : List aK} {dst : Option Tmp} {ty : TypeId} {pos : String} {aft : Array Edge} {gd : Option (Nat × Bool)} {t : TypeId} {a x : Operand} {n k off off' : Nat} {b : Bool} {v u u0 old v' : V} {vs : List V} {l : List (Nat × Nat × Bool)} {o : Nat} {path : List Nat}
theorem OpS.ldC [S : SzT P t n] [A : AgT P t b] (hx : E a = .cptr u) [N : FlV u n] (hb : u.isAgg = b) : OpS P ⟨dst, .load t a, ty, pos, aft, gd⟩ E H u H := .loadC S.p A.p hx N.p hb
theorem OpS.ldP [S : SzT P t n] [A : AgT P t b] (hx : E a = .ptr o path off) (ho : H[o]? = some (.cells v)) (hu : AtP v path off' u) (hoff : off = off') [N : FlV u n] (hb : u.isAgg = b) : OpS P ⟨dst, .load t a, ty, pos, aft, gd⟩ E H u H := .loadP S.p A.p hx ho hu hoff N.p hb
theorem OpS.faC [L : LayT P t l] (hk : l[k]? = some (off, n, b)) (hn : (n == 0) = false) (hx : E x = .cptr (.st vs)) (hu : vs[k]? = some u) [T : FlT vs k off] : OpS P ⟨dst, .fieldAddr t x k, ty, pos, aft, gd⟩ E H (.cptr u) H := .fieldAddrC L.p hk hn hx hu T.p
theorem OpS.fd [L : LayT P t l] (hk : l[k]? = some (off, n, b)) (hx : E x = .st vs) (hu : vs[k]? = some u) [T : FlT vs k off] [N : FlV u n] (hb : u.isAgg = b) : OpS P ⟨dst, .field t x k, ty, pos, aft, gd⟩ E H u H := .field L.p hk hx hu T.p N.p hb
theorem OpS.sw [S : SzT P t n] (ha : E a = .ptr o [] 0) (hx : E x = u) (hk : okV u = true) (ho : H[o]? = some (.cells v)) [N : FlV u n] [M : FlV v n] (hH : H.set o (.cells u) = H2) : OpS P ⟨dst, .store t a x, ty, pos, aft, gd⟩ E H .undef H2 := .stw S.p ha hx hk ho N.p M.p hH
theorem OpS.sP [S : SzT P t n] (ha : E a = .ptr o path off) (hx : E x = u0) (hk : okV u0 = true) (hsub : RSub u0 u) (ho : H[o]? = some (.cells v)) (hold : AtP v path off' old) (hoff : off = off') (hset : SetP v path u v') [N : FlV u n] [M : FlV old n]
  (hH : H.set o (.cells v') = H2) : OpS P ⟨dst, .store t a x, ty, pos, aft, gd⟩ E H .undef H2 := .storeP S.p ha hx hk hsub ho hold hoff hset N.p M.p hH
theorem OpS.cq {f : FuncId} {args : Array Operand} [N : EnT P f] (ha : SubL (args.toList.map E) args') (hs : PureC P f args' v) (hf : E (.func f) = .fn f [] []) : OpS P ⟨dst, .call ⟨.value (.func f), args, ats⟩, ty, pos, aft, gd⟩ E H v H :=
 .callQ N.p hf (by simpa using ha) hs
theorem AtP.f {k d : Nat} {w : V} {p : List Nat} (hk : vs[k]? = some w) [T : FlT vs k d] (h : AtP w p off u) : AtP (.st vs) (k :: p) (d + off) u := .st hk T.p h
theorem cr {ws : List V} {x : V} (hx : x = v) (t : SubL us ws) : SubL (x :: us) (v :: ws) := .c hx (.refl _) t
theorem i0 {c : Prop} [Decidable c] {v w : V} {t : Nat} {e : List (Nat × V)} (h : c) : look ((t, if c then v else w) :: e) t = v := ifT h l0
end
theorem Ok.b {α β : Type} {m : Option α} {k : α → Option β} {K : β → Prop} {p : Prop} (h : Ok (Option.bind m k) K) (f : ∀ r, m = some r → Ok (k r) K → p) : p := by
 obtain ⟨r, h1, h2⟩ := h.bnd
 exact f r h1 h2
theorem Ok.n {α β : Type} {e : α} {k : α → Option β} {K : β → Prop} {p : Prop} (h : Ok (letM e k) K) (f : ∀ v, v = e → Ok (k v) K → p) : p := by
 obtain ⟨v, h1, h2⟩ := h.nam
 exact f v h1 h2
theorem EnvF.l {o : Nat} {env r : List (Nat × V)} (ks : List Nat) (h : selp env ks = some r) : EnvF o ob env r := by
 induction ks generalizing r with
 | nil => cases h; exact .nil
 | cons k ks ih =>
  obtain ⟨t, v, r', rfl, h1, h2⟩ := selp_cons h
  exact .s k h1 (ih h2)
theorem Wk.z {n : Nat} {env r : List (Nat × V)} {H : List aK} (ks : List Nat) (h : Av.sel env ks = some r) [LtE r] : Wk n 0 ⟨env, H⟩ ⟨r, []⟩ := Wk.selS [] .nil rfl (sl ks h) .nil
end
theorem _root_.Go.Av.Z.{u} {α : Sort u} {a : α} : a = a := rfl
section
variable {vs' : List V} {g : Gh} {p : Place} {v v' : V} {H : List aK}

/-- The same, but that the object o, which has no room, stands where nothing stood. -/
structure NilR (o : Nat) (v v' : V) : Prop where
 agg : v.isAgg = v'.isAgg
 fl : flen v = flen v'
 ok : okV v = okV v'
 rc : ∀ (g : Gh) p, g.ρ[o]? = some p → p.vac = true → ∀ cs, RC g v cs → RC g v' cs
inductive NilL (o : Nat) : List V → List V → Prop where
 | nil : NilL o [] []
 | cons {v v' : V} {vs vs' : List V} (h : NilR o v v') (t : NilL o vs vs') : NilL o (v :: vs) (v' :: vs')
theorem NilR.refl (v : V) : NilR o v v := ⟨rfl, rfl, rfl, fun _ _ _ _ _ h => h⟩
theorem NilR.here {e : Nat} : NilR o .nils (.slo e o [] 0 0 0 1) := ⟨rfl, rfl, rfl, fun g p hp hv cs h => by
 simp only [RC] at h ⊢
 exact ⟨p, hp, none, 0, h, Nat.le_refl _, .inl ⟨hv, rfl⟩⟩⟩
theorem NilL.fl {o : Nat} {vs vs' : List V} (h : NilL o vs vs') : flenL vs = flenL vs' := by
 induction h with
 | nil => rfl
 | cons h _ ih => simp [flenL, h.fl, ih]
theorem NilL.rcs {vs : List V} (h : NilL o vs vs') (hp : g.ρ[o]? = some p) (hv : p.vac = true) : ∀ {cs : List Value}, RCs g vs cs → RCs g vs' cs := by
 induction h with
 | nil => exact fun h => h
 | cons h _ ih =>
  intro cs k
  simp only [RCs] at k ⊢
  obtain ⟨a, b, h1, h2, h3⟩ := k
  exact ⟨a, b, h1, h.rc g p hp hv _ h2, ih h3⟩
theorem NilR.st {o : Nat} {vs vs' : List V} (h : NilL o vs vs') : NilR o (.st vs) (.st vs') := ⟨rfl, by simp only [flen]; exact h.fl, rfl, fun g p hp hv cs k => by
 simp only [RC] at k ⊢
 exact h.rcs hp hv k⟩
theorem NilR.cptr {o : Nat} {v v' : V} (h : NilR o v v') : NilR o (.cptr v) (.cptr v') := ⟨rfl, rfl, rfl, fun g p hp hv cs k => by
 simp only [RC] at k ⊢
 obtain ⟨a, c, h1, h2, h3, h4⟩ := k
 exact ⟨a, c, h1, h2, h.rc g p hp hv _ h3, h4⟩⟩
theorem rq {w : V} {f : Nat → Nat} (h : v.ren f = w) : RSub w (v.ren f) := .eq h.symm
theorem Wk.nilS {n : Nat} {env : List (Nat × V)} {t : Nat} (e : Nat) (h : look env t = v) (hk : okV v = true) (r : NilR H.length v v') : Wk n m ⟨env, H⟩ ⟨(t, v') :: env, H ++ [.buf e []]⟩ := by
 intro B g a w b1 b2 r1 r2 r3
 have hadd : HR { g with ρ := g.ρ ++ [⟨0, 0, 0, true⟩] } (H ++ [.buf e []]) w := r2.add ⟨0, 0, 0, true⟩ (.buf e []) (.inl ⟨rfl, rfl⟩) (fun h => by simp [Place.own] at h)
 have hv := r1.env t
 rw [show (⟨env, H⟩ : St).env = env from rfl, h] at hv
 refine ⟨_, ⟨fun t' => ?_, r1.size, r1.defers⟩, hadd, r3.trans ⟨g.le_push _, rfl, rfl, rfl, Nat.le_refl _, Nat.le_refl _, fun _ _ _ => rfl, fun _ _ _ _ => rfl, ?_⟩⟩
 ·rw [look_cons]
  split
  ·rename_i e'; subst e'
   obtain ⟨q1, q2⟩ := (hv.mono (g.le_push (⟨0, 0, 0, true⟩ : Place))).ok hk
   exact RV.of (r.agg ▸ q1) (r.rc _ ⟨0, 0, 0, true⟩ (by show (g.ρ ++ [_])[H.length]? = _; rw [← r2.len]; simp) rfl _ q2)
  ·exact (r1.env t').mono (g.le_push _)
 ·rintro b ⟨a', q, ob1, h1, h2, l1, e'⟩
  rcases Nat.lt_or_ge a' g.ρ.length with hlt | hge
  ·exact ⟨a', q, ob1, by rwa [List.getElem?_append_left hlt] at h1, by rwa [List.getElem?_append_left (r2.len ▸ hlt)] at h2, l1, e'⟩ |> .inl
  ·have hle : a' < (g.ρ ++ [(⟨0, 0, 0, true⟩ : Place)]).length := (List.getElem?_eq_some_iff.1 h1).1
   have : a' = g.ρ.length := by simp at hle; omega
   subst this
   rw [List.getElem?_append_right (Nat.le_refl _)] at h1
   rw [r2.len, List.getElem?_append_right (Nat.le_refl _)] at h2
   simp at h1 h2
   subst h1 h2
   simp [Place.own] at l1
end
end Go.Av
