/- Maps of typed keys and values. -/
import Derived.Test.YtdbiobndihpccabAvCore15
import Derived.Test.YtdbiobndihpccabAvCore25
namespace Go.Av
set_option linter.unusedSimpArgs false
set_option linter.unusedVariables false
set_option linter.unusedSectionVars false

/-- A map whose keys may be asked for. -/
structure AMap (K α : Type) (ok : K → Bool) where
  es : List (K × α)
  nd : (es.map (·.1)).Nodup
  oks : ∀ p ∈ es, ok p.1 = true

section
variable {K α : Type} {ok : K → Bool}
def AMap.empty : AMap K α ok := ⟨[], by simp, by simp⟩
instance : Inhabited (AMap K α ok) := ⟨.empty⟩

variable [DecidableEq K]
def findK (k : K) : List (K × α) → Option α
  | [] => none
  | p :: r => if p.1 = k then some p.2 else findK k r
def putK (k : K) (a : α) : List (K × α) → List (K × α)
  | [] => [(k, a)]
  | p :: r => if p.1 = k then (k, a) :: r else p :: putK k a r
theorem putK_keys (k : K) (a : α) : ∀ l : List (K × α), ∀ q, q ∈ (putK k a l).map (·.1) ↔ q = k ∨ q ∈ l.map (·.1)
  | [], q => by simp [putK]
  | p :: r, q => by
    simp only [putK]
    split
    · rename_i h
      subst h
      simp
    · simp only [List.map_cons, List.mem_cons, putK_keys k a r q]
      constructor
      · rintro (h | h | h)
        · exact .inr (.inl h)
        · exact .inl h
        · exact .inr (.inr h)
      · rintro (h | h | h)
        · exact .inr (.inl h)
        · exact .inl h
        · exact .inr (.inr h)
theorem putK_nodup (k : K) (a : α) : ∀ l : List (K × α), (l.map (·.1)).Nodup → ((putK k a l).map (·.1)).Nodup
  | [], _ => by simp [putK]
  | p :: r, h => by
    simp only [List.map_cons, List.nodup_cons] at h
    simp only [putK]
    split
    · rename_i e
      subst e
      simp only [List.map_cons, List.nodup_cons]
      exact h
    · rename_i e
      simp only [List.map_cons, List.nodup_cons]
      refine ⟨fun hm => ?_, putK_nodup k a r h.2⟩
      rcases (putK_keys k a r p.1).1 hm with hm | hm
      · exact e hm
      · exact h.1 hm
def AMap.get (m : AMap K α ok) (k : K) : Option (Option α) := if ok k = true then some (findK k m.es) else none
def AMap.put (m : AMap K α ok) (k : K) (a : α) : Option (AMap K α ok) :=
  if h : ok k = true then some ⟨putK k a m.es, putK_nodup k a m.es m.nd, fun p hp => by
    have : p.1 ∈ (putK k a m.es).map (·.1) := List.mem_map.2 ⟨p, hp, rfl⟩
    rcases (putK_keys k a m.es p.1).1 this with e | e
    · rw [e]; exact h
    · obtain ⟨q, hq, e⟩ := List.mem_map.1 e
      rw [← e]; exact m.oks q hq⟩ else none
theorem AMap.get_spec {m : AMap K α ok} {k : K} {r : Option α} (h : m.get k = some r) : ok k = true ∧ r = findK k m.es := by
  unfold AMap.get at h
  split at h
  · cases h; exact ⟨by assumption, rfl⟩
  · cases h
theorem AMap.put_spec {m m' : AMap K α ok} {k : K} {a : α} (h : m.put k a = some m') : ok k = true ∧ m'.es = putK k a m.es := by
  unfold AMap.put at h
  split at h
  · cases h; exact ⟨by assumption, rfl⟩
  · cases h
end

/-- Keys of a type. -/
structure KeyT (P : Program) (k : TypeId) {K : Type} (fk : K → V) (ok : K → Bool) : Prop where
  ok : ∀ x, ok x = true → keyOk P k (fk x)
  inj : ∀ x y, flatV (fk x) = flatV (fk y) → x = y

def encE {K α : Type} (fk : K → V) (fv : α → V) (l : List (K × α)) : List (V × V) := l.map fun p => (fk p.1, fv p.2)

theorem encE_ok {P : Program} {k : TypeId} {K α : Type} {fk : K → V} {fv : α → V} {ok : K → Bool} (T : KeyT P k fk ok) (m : AMap K α ok) : ∀ p ∈ encE fk fv m.es, keyOk P k p.1 := by
  intro p hp
  obtain ⟨q, hq, rfl⟩ := List.mem_map.1 hp
  exact T.ok _ (m.oks q hq)
theorem encE_nd {P : Program} {k : TypeId} {K α : Type} {fk : K → V} {fv : α → V} {ok : K → Bool} (T : KeyT P k fk ok) (m : AMap K α ok) : ((encE fk fv m.es).map fun p => flatV p.1).Nodup := by
  have : ((encE fk fv m.es).map fun p => flatV p.1) = (m.es.map (·.1)).map fun x => flatV (fk x) := by simp [encE, Function.comp_def]
  rw [this]
  exact List.Nodup.map_on? T m
where
  List.Nodup.map_on? (T : KeyT P k fk ok) (m : AMap K α ok) : ((m.es.map (·.1)).map fun x => flatV (fk x)).Nodup := by
    have hn := m.nd
    generalize m.es.map (·.1) = l at hn
    induction l with
    | nil => simp
    | cons a l ih =>
      simp only [List.nodup_cons] at hn
      simp only [List.map_cons, List.nodup_cons]
      refine ⟨fun h => ?_, ih hn.2⟩
      obtain ⟨b, hb, e⟩ := List.mem_map.1 h
      exact hn.1 (T.inj _ _ e ▸ hb)

theorem getM_find {P : Program} {k : TypeId} {K α : Type} [DecidableEq K] {fk : K → V} {fv : α → V} {ok : K → Bool} (T : KeyT P k fk ok) (key : K) : ∀ l : List (K × α), GetM (encE fk fv l) (fk key) ((findK key l).map fv)
  | [] => .none (by simp [encE])
  | p :: r => by
    simp only [findK]
    split
    · rename_i e
      subst e
      exact .some (k' := fk p.1) (by simp [encE]) rfl
    · rename_i e
      have ih := getM_find (fv := fv) T key r
      cases hf : findK key r with
      | none =>
        rw [hf, Option.map_none] at ih
        cases ih with
        | none h =>
          refine .none fun q hq => ?_
          rcases List.mem_cons.1 hq with rfl | hq
          · exact fun he => e (T.inj _ _ he)
          · exact h q hq
      | some a =>
        rw [hf, Option.map_some] at ih
        cases ih with
        | some h he => exact .some (List.mem_cons_of_mem _ h) he

theorem putM_put {P : Program} {k : TypeId} {K α : Type} [DecidableEq K] {fk : K → V} {fv : α → V} {ok : K → Bool} (T : KeyT P k fk ok) (key : K) (a : α) : ∀ l : List (K × α), PutM (encE fk fv l) (fk key) (fv a) (encE fk fv (putK key a l))
  | [] => .new (by simp [encE])
  | p :: r => by
    simp only [putK]
    split
    · rename_i e
      subst e
      exact .old (j := 0) (k' := fk p.1) (v' := fv p.2) (by simp [encE]) rfl
    · rename_i e
      have ih := putM_put (fv := fv) T key a r
      have hc : encE fk fv (p :: putK key a r) = (fk p.1, fv p.2) :: encE fk fv (putK key a r) := rfl
      have hc2 : encE fk fv (p :: r) = (fk p.1, fv p.2) :: encE fk fv r := rfl
      rw [hc, hc2]
      generalize hx : encE fk fv (putK key a r) = X at ih
      cases ih with
      | @old j k' v' h he => exact .old (j := j + 1) (k' := k') (v' := v') (by simpa using h) he
      | new h =>
        exact .new fun q hq => by
          rcases List.mem_cons.1 hq with rfl | hq
          · exact fun he => e (T.inj _ _ he)
          · exact h q hq

section
variable {P : Program} {E : Operand → V} {H : List AObj} {dst : Option Tmp} {ty : TypeId} {pos : String} {aft : Array Edge} {gd : Option (Nat × Bool)}
variable {K α : Type} [DecidableEq K] {fk : K → V} {fv : α → V} {ok : K → Bool}
theorem OpS.mapPutT {t k et : TypeId} {m i x : Operand} {o : Nat} {M M' : AMap K α ok} {kk : K} {a : α} {H2 : List AObj} (hu : P.underlying t = some (.map k et)) (Kd : Maps.Keyed P k) (T : KeyT P k fk ok) (hv : ∀ a, okV (fv a) = true) (hm : E m = .map o) (hi : E i = fk kk) (hx : E x = fv a)
    (ho : H[o]? = some (.map (encE fk fv M.es))) (hp : M.put kk a = some M') (hH : H.set o (.map (encE fk fv M'.es)) = H2) : OpS P ⟨dst, .mapUpdate t m i x, ty, pos, aft, gd⟩ E H .undef H2 := by
  obtain ⟨h1, h2⟩ := AMap.put_spec hp
  subst hH
  rw [h2]
  exact .mapUpdate hu Kd hm hi hx ho (T.ok _ h1) (encE_ok T M) (encE_nd T M) (putM_put T kk a M.es)
theorem OpS.mapGetT [Inhabited α] {t k et : TypeId} {m i : Operand} {o : Nat} {M : AMap K α ok} {kk : K} {r : Option α} (hu : P.underlying t = some (.map k et)) (Kd : Maps.Keyed P k) (T : KeyT P k fk ok) (hv : ∀ a, okV (fv a) = true) (hz : ZeroV P et (fv default)) (hm : E m = .map o) (hi : E i = fk kk)
    (ho : H[o]? = some (.map (encE fk fv M.es))) (hp : M.get kk = some r) : OpS P ⟨dst, .lookup t m i true, ty, pos, aft, gd⟩ E H (.tup [fv (r.getD default), .bool r.isSome]) H := by
  obtain ⟨h1, rfl⟩ := AMap.get_spec hp
  have := OpS.lookup (P := P) (E := E) (H := H) (dst := dst) (ty := ty) (pos := pos) (aft := aft) (gd := gd) hu Kd hz hm hi ho (T.ok _ h1) (encE_ok T M) (encE_nd T M) (getM_find T kk M.es) (by cases findK kk M.es <;> exact hv _)
  cases hf : findK kk M.es with
  | none => rw [hf] at this; exact this
  | some a => rw [hf] at this; exact this
end

def inI64 (x : Int) : Bool := decide (-9223372036854775808 ≤ x ∧ x ≤ 9223372036854775807)
def okInts {n : Nat} (v : Vector Int n) : Bool := v.toList.all inI64
theorem inI64_wf {x : Int} (h : inI64 x = true) : (Lit.int .i64 x).wf = true := by
  simp [inI64] at h
  simp [Lit.wf, IntKind.min, IntKind.max, IntKind.signed, IntKind.bits]; omega

theorem flatL_ints : ∀ l : List Int, flatL (l.map (V.int .i64)) = some (l.map (Value.int .i64))
  | [] => rfl
  | x :: l => by simp [flatL, flatC, flatL_ints l]

theorem keyT_ints {P : Program} {k e : TypeId} {n : Nat} (hu : P.underlying k = some (.array n e)) (he : P.underlying e = some (.int .i64)) (hc : P.cellsOf e = 1) (hn : P.cellsOf k = n) (hk : P.keyType k = true) (hs : 0 < P.types.size) :
    KeyT P k (fun v : Vector Int n => V.arr 1 (v.toList.map (V.int .i64))) okInts := by
  have hf : ∀ v : Vector Int n, flatV (V.arr 1 (v.toList.map (V.int .i64))) = some (.agg (v.toList.map (Value.int .i64)).toArray) := by
    intro v
    simp [flatV, flatC, flatL_ints, mkVal, V.isAgg]
  refine ⟨fun v hv => ?_, fun x y h => ?_⟩
  · obtain ⟨l, hl⟩ := keyOf_ints hu he hc hn hk hs (xs := v.toList) (by simp) (fun x hx => inI64_wf (List.all_eq_true.1 hv x hx))
    exact ⟨_, l, hf v, hl⟩
  · rw [hf, hf] at h
    simp at h
    have h2 : x.toList.map (Value.int .i64) = y.toList.map (Value.int .i64) := by simpa using h
    exact Vector.toList_inj.1 ((List.map_inj_right (fun a b e => by cases e; rfl)).1 h2)

theorem lt_map {K α : Type} {fk : K → V} {fv : α → V} {a b : Nat} {c d : Bool} (hk : TyOk fk a c) (hv : TyOk fv b d) {m : Nat} : ∀ {l : List (K × α)}, (AObj.map (encE fk fv l)).lt m = true
  | [] => rfl
  | p :: l => by
    have ih := lt_map hk hv (m := m) (l := l)
    simp only [AObj.lt, encE, List.map_cons, esLt, hk.lt, hv.lt, Bool.and_self, Bool.true_and] at ih ⊢
    exact ih
theorem ren_map {K α : Type} {fk : K → V} {fv : α → V} {a b : Nat} {c d : Bool} (hk : TyOk fk a c) (hv : TyOk fv b d) (f : Nat → Nat) : ∀ {l : List (K × α)}, (AObj.map (encE fk fv l)).ren f = .map (encE fk fv l)
  | [] => rfl
  | p :: l => by
    have ih := ren_map hk hv f (l := l)
    simp only [AObj.ren, encE, List.map_cons, esRen, AObj.map.injEq, hk.cl, hv.cl] at ih ⊢
    rw [ih]
theorem asub_map {K α : Type} {fk : K → V} {fv : α → V} {a b : Nat} {c d : Bool} (hk : TyOk fk a c) (hv : TyOk fv b d) (f : Nat → Nat) {l : List (K × α)} : ASub (.map (encE fk fv l)) ((AObj.map (encE fk fv l)).ren f) := by
  rw [ren_map hk hv]; exact .refl _
end Go.Av
