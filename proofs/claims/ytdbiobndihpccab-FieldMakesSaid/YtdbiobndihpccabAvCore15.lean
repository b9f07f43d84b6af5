/- Maps: made, filled, asked. -/
import Derived.Test.YtdbiobndihpccabAvCore14
import Derived.Maps.Keyed
import Derived.DeepKeys5
namespace Go.Av
set_option linter.unusedSimpArgs false
set_option linter.unusedVariables false
open Go.ChangeShapes Go.WideShapes

mutual
/-- A value without places: its cells, whatever the memory. -/
def flatC : V → Option (List Value)
  | .bool b => some [.bool b]
  | .int k n => some [.int k n]
  | .str s => some [.string s]
  | .st vs => flatL vs
  | .arr _ vs => flatL vs
  | _ => none
def flatL : List V → Option (List Value)
  | [] => some []
  | v :: vs => match flatC v, flatL vs with | some a, some b => some (a ++ b) | _, _ => none
end

mutual
theorem flatC_rc {g : Gh} : ∀ {v : V} {c c' : List Value}, flatC v = some c → RC g v c' → c' = c
  | .bool b, _, _, h, k => by simp only [flatC, Option.some.injEq] at h; subst h; simpa only [RC] using k
  | .int _ _, _, _, h, k => by simp only [flatC, Option.some.injEq] at h; subst h; simpa only [RC] using k
  | .str _, _, _, h, k => by simp only [flatC, Option.some.injEq] at h; subst h; simpa only [RC] using k
  | .st vs, _, _, h, k => by simp only [flatC] at h; simp only [RC] at k; exact flatL_rcs h k
  | .arr _ vs, _, _, h, k => by simp only [flatC] at h; simp only [RC] at k; exact flatL_rcu h k
  | .nilp, _, _, h, _ => by simp [flatC] at h
  | .ptr _ _ _, _, _, h, _ => by simp [flatC] at h
  | .cptr _, _, _, h, _ => by simp [flatC] at h
  | .nils, _, _, h, _ => by simp [flatC] at h
  | .sl _ _ _, _, _, h, _ => by simp [flatC] at h
  | .slo _ _ _ _ _ _ _, _, _, h, _ => by simp [flatC] at h
  | .fn _ _ _, _, _, h, _ => by simp [flatC] at h
  | .nilfn, _, _, h, _ => by simp [flatC] at h
  | .ifc _ _, _, _, h, _ => by simp [flatC] at h
  | .nili, _, _, h, _ => by simp [flatC] at h
  | .tup _, _, _, h, _ => by simp [flatC] at h
  | .map _, _, _, h, _ => by simp [flatC] at h
  | .nilmap, _, _, h, _ => by simp [flatC] at h
  | .undef, _, _, h, _ => by simp [flatC] at h
theorem flatL_rcs {g : Gh} : ∀ {vs : List V} {c c' : List Value}, flatL vs = some c → RCs g vs c' → c' = c
  | [], _, _, h, k => by simp only [flatL, Option.some.injEq] at h; subst h; simpa only [RCs] using k
  | v :: vs, _, _, h, k => by
    simp only [flatL] at h
    simp only [RCs] at k
    obtain ⟨c1, c2, rfl, k1, k2⟩ := k
    split at h
    · rename_i a b ha hb
      cases h
      rw [flatC_rc ha k1, flatL_rcs hb k2]
    · cases h
theorem flatL_rcu {g : Gh} {e : Nat} : ∀ {vs : List V} {c c' : List Value}, flatL vs = some c → RCu g e vs c' → c' = c
  | [], _, _, h, k => by simp only [flatL, Option.some.injEq] at h; subst h; simpa only [RCu] using k
  | v :: vs, _, _, h, k => by
    simp only [flatL] at h
    simp only [RCu] at k
    obtain ⟨c1, c2, rfl, _, k1, k2⟩ := k
    split at h
    · rename_i a b ha hb
      cases h
      rw [flatC_rc ha k1, flatL_rcu hb k2]
    · cases h
end

/-- The value itself. -/
def flatV (v : V) : Option Value := (flatC v).map (mkVal v.isAgg)

theorem flatV_rv {g : Gh} {v : V} {x y : Value} (h : flatV v = some y) (k : RV g v x) : x = y := by
  unfold flatV at h
  rw [Option.map_eq_some_iff] at h
  obtain ⟨c, hc, rfl⟩ := h
  have hk : v.isAgg = valAgg x ∧ RC g v x.cells.toList := by
    cases v <;> first | exact k | (simp [flatC] at hc)
  have := flatC_rc hc hk.2
  subst this
  rw [hk.1]
  cases x <;> simp [valAgg, mkVal, Value.cells]

def keyOk (P : Program) (k : TypeId) (v : V) : Prop := ∃ x l, flatV v = some x ∧ keyOf P k x = some l

theorem keyOk.get {P : Program} {k : TypeId} {v : V} (h : keyOk P k v) {g : Gh} {x : Value} (hx : RV g v x) : ∃ l, flatV v = some x ∧ keyOf P k x = some l := by
  obtain ⟨y, l, h1, h2⟩ := h
  have := flatV_rv h1 hx
  subst this
  exact ⟨l, h1, h2⟩

theorem RV.map_eq {g : Gh} {o : Nat} {x : Value} (h : RV g (.map o) x) : ∃ p, g.ρ[o]? = some p ∧ x = .map (some p.block) := by
  have hv := h.leafval rfl rfl
  simp only [RC] at hv
  obtain ⟨p, h1, h2⟩ := hv
  exact ⟨p, h1, by simpa using h2⟩

theorem REs.get {g : Gh} : ∀ {es : List (V × V)} {l : List MapEntry} {j : Nat} {e : MapEntry}, REs g es l → l[j]? = some e → ∃ p, es[j]? = some p ∧ RV g p.1 e.key ∧ RV g p.2 e.val
  | [], _, _, _, h, hj => by simp only [REs] at h; subst h; simp at hj
  | kv :: es, l, 0, e, h, hj => by
    obtain ⟨e', r, rfl, h1, h2, _⟩ := h
    simp at hj; subst hj
    exact ⟨kv, rfl, h1, h2⟩
  | kv :: es, l, j + 1, e, h, hj => by
    obtain ⟨e', r, rfl, _, _, h3⟩ := h
    exact h3.get (by simpa using hj)

theorem REs.geti {g : Gh} : ∀ {es : List (V × V)} {l : List MapEntry} {j : Nat} {p : V × V}, REs g es l → es[j]? = some p → ∃ e, l[j]? = some e ∧ RV g p.1 e.key ∧ RV g p.2 e.val
  | [], _, _, _, h, hj => by simp at hj
  | kv :: es, l, 0, p, h, hj => by
    obtain ⟨e', r, rfl, h1, h2, _⟩ := h
    simp at hj; subst hj
    exact ⟨e', rfl, h1, h2⟩
  | kv :: es, l, j + 1, p, h, hj => by
    obtain ⟨e', r, rfl, _, _, h3⟩ := h
    exact h3.geti (by simpa using hj)

theorem REs.push {g : Gh} : ∀ {es : List (V × V)} {l : List MapEntry} {p : V × V} {e : MapEntry}, REs g es l → RV g p.1 e.key → RV g p.2 e.val → REs g (es ++ [p]) (l ++ [e])
  | [], l, p, e, h, h1, h2 => by simp only [REs] at h; subst h; exact ⟨e, [], rfl, h1, h2, rfl⟩
  | kv :: es, l, p, e, h, h1, h2 => by
    obtain ⟨e', r, rfl, h3, h4, h5⟩ := h
    exact ⟨e', r ++ [e], rfl, h3, h4, h5.push h1 h2⟩

theorem REs.set {g : Gh} : ∀ {es : List (V × V)} {l : List MapEntry} {j : Nat} {p : V × V} {e : MapEntry}, REs g es l → RV g p.1 e.key → RV g p.2 e.val → REs g (es.set j p) (l.set j e)
  | [], l, _, p, e, h, h1, h2 => by simp only [REs] at h; subst h; simp [REs]
  | kv :: es, l, 0, p, e, h, h1, h2 => by
    obtain ⟨e', r, rfl, h3, h4, h5⟩ := h
    exact ⟨e, r, rfl, h1, h2, h5⟩
  | kv :: es, l, j + 1, p, e, h, h1, h2 => by
    obtain ⟨e', r, rfl, h3, h4, h5⟩ := h
    exact ⟨e', r.set j e, rfl, h3, h4, h5.set h1 h2⟩

/-- What an entry list tells of a key. -/
inductive GetM (es : List (V × V)) (k : V) : Option V → Prop where
  | some {k' v : V} (h : (k', v) ∈ es) (he : flatV k' = flatV k) : GetM es k (some v)
  | none (h : ∀ p ∈ es, flatV p.1 ≠ flatV k) : GetM es k none

section
variable {P : Program} {E : Operand → V} {H : List AObj} {dst : Option Tmp} {ty : TypeId} {pos : String} {aft : Array Edge} {gd : Option (Nat × Bool)}

theorem OpS.makeMap {t : TypeId} : OpS P ⟨dst, .makeMap t none, ty, pos, aft, gd⟩ E H (.map H.length) (H ++ [.map []]) := by
  intro g rc w h hr
  have hrun : (execOp rc ⟨dst, .makeMap t none, ty, pos, aft, gd⟩).run P w = .ok (.value (.map (some w.heap.size))) (w.alloc (.map #[] 0)) := by
    simp [execOp, RowKit.run_makeMap]
  rw [hrun]
  refine ⟨{ g with ρ := g.ρ ++ [⟨w.heap.size, 0, 0, false⟩] }, ?_, hr.alloc _ _ ⟨w.heap.size, 0, 0, false⟩ rfl ?_, .alloc hr _ _ _ rfl⟩
  · refine RV.of_leaf rfl ?_
    simp only [RC]
    exact ⟨⟨w.heap.size, 0, 0, false⟩, by rw [← hr.len]; simp, rfl⟩
  · exact ⟨#[], 0, heap_alloc_eq _ _, by simp [REs], by simp⟩

/-- Finding a key's entry. -/
theorem run_find {k : TypeId} (K : Maps.Keyed P k) {g : Gh} {w : World} {es : List (V × V)} {l : List MapEntry} (hl : REs g es l) {kv : V} {x : Value} (hx : RV g kv x) (hk : keyOk P k kv) (hes : ∀ p ∈ es, keyOk P k p.1)
    (hnd : (es.map fun p => flatV p.1).Nodup) :
    ((Instr.findKey k x l).run P w = .ok none w ∧ ∀ p ∈ es, flatV p.1 ≠ flatV kv) ∨
    ∃ j e p, (Instr.findKey k x l).run P w = .ok (some (j, e.val)) w ∧ l[j]? = some e ∧ es[j]? = some p ∧ RV g p.1 e.key ∧ RV g p.2 e.val ∧ e.key = x ∧ flatV p.1 = flatV kv := by
  obtain ⟨lit, hf, hkey⟩ := hk.get hx
  have hall : ∀ e ∈ l, ∃ lt, keyOf P k e.key = some lt := by
    intro e he
    obtain ⟨j, hj⟩ := List.mem_iff_getElem?.1 he
    obtain ⟨p, hp, h1, _⟩ := hl.get hj
    obtain ⟨lt, _, h2⟩ := (hes p (List.mem_of_getElem? hp)).get h1
    exact ⟨lt, h2⟩
  rcases K.find w hkey l hall with ⟨h1, h2⟩ | ⟨j, e, h1, h2, h3⟩
  · refine .inl ⟨h1, fun p hp he => ?_⟩
    obtain ⟨j, hj⟩ := List.mem_iff_getElem?.1 hp
    obtain ⟨e, he', q1, _⟩ := hl.geti hj
    obtain ⟨_, q2, _⟩ := (hes p hp).get q1
    rw [he, hf] at q2
    exact h2 e (List.mem_of_getElem? he') (Option.some.inj q2).symm
  · obtain ⟨p, hp, q1, q2⟩ := hl.get h2
    obtain ⟨_, q3, _⟩ := (hes p (List.mem_of_getElem? hp)).get q1
    exact .inr ⟨j, e, p, h1, h2, hp, q1, q2, h3, by rw [q3, hf, h3]⟩

theorem nodup_get {α β : Type} {f : α → β} : ∀ {l : List α} {p q : α}, (l.map f).Nodup → p ∈ l → q ∈ l → f p = f q → p = q
  | a :: l, p, q, hn, hp, hq, he => by
    simp only [List.map_cons, List.nodup_cons, List.mem_map, not_exists, not_and] at hn
    rcases List.mem_cons.1 hp with rfl | hp'
    · rcases List.mem_cons.1 hq with rfl | hq'
      · rfl
      · exact absurd he.symm (hn.1 q hq')
    · rcases List.mem_cons.1 hq with rfl | hq'
      · exact absurd he (hn.1 p hp')
      · exact nodup_get hn.2 hp' hq' he

theorem OpS.lookup {t k et : TypeId} {m i : Operand} {o : Nat} {es : List (V × V)} {kv z : V} {r : Option V} (hu : P.underlying t = some (.map k et)) (K : Maps.Keyed P k) (hz : ZeroV P et z) (hm : E m = .map o) (hi : E i = kv)
    (ho : H[o]? = some (.map es)) (hk : keyOk P k kv) (hes : ∀ p ∈ es, keyOk P k p.1) (hnd : (es.map fun p => flatV p.1).Nodup) (hr : GetM es kv r) (hok : okV (r.getD z) = true) :
    OpS P ⟨dst, .lookup t m i true, ty, pos, aft, gd⟩ E H (.tup [r.getD z, .bool r.isSome]) H :=
  .quiet fun g rc w h hH => by
    obtain ⟨p, q1, q2⟩ := (hm ▸ h m (by simp [Op.operands])).map_eq
    have hx := hi ▸ h i (by simp [Op.operands])
    obtain ⟨ents, clock, b1, b2, b3⟩ := hH.obj o p _ q1 ho
    obtain ⟨_, hf, hkey⟩ := hk.get hx
    have hchk := K.check w ents.isEmpty hkey
    obtain ⟨val, z1, z2, z3⟩ := hz.run w g
    rcases run_find K b2 hx hk hes hnd (w := w) with ⟨f1, f2⟩ | ⟨j, e, pr, f1, f2, f3, f4, f5, f6, f7⟩
    · cases hr with
      | some h' he => exact absurd he (f2 _ h')
      | none _ =>
        refine ⟨.tuple #[val, .bool false], ?_, ?_⟩
        · simp [execOp, Instr.lookup, run_underlying hu, q2, MapKept.run_getObj_map b1, hchk, f1, z1]
        · refine ⟨#[val, .bool false], rfl, ?_⟩
          simp only [RVl]
          exact ⟨val, _, rfl, z3, z2, .bool false, [], rfl, rfl, by simp [RC, Value.cells], rfl⟩
    · cases hr with
      | none hn => exact absurd f7 (hn _ (List.mem_of_getElem? f3))
      | @some k' v h' he =>
        have := nodup_get (f := fun p : V × V => flatV p.1) hnd (List.mem_of_getElem? f3) h' (f7.trans he.symm)
        subst this
        obtain ⟨g1, g2⟩ := f5.ok hok
        refine ⟨.tuple #[e.val, .bool true], ?_, ?_⟩
        · simp [execOp, Instr.lookup, run_underlying hu, q2, MapKept.run_getObj_map b1, hchk, f1]
        · refine ⟨#[e.val, .bool true], rfl, ?_⟩
          simp only [RVl]
          exact ⟨e.val, _, rfl, g1, g2, .bool true, [], rfl, rfl, by simp [RC, Value.cells], rfl⟩

/-- What an entry list is when a key is given a value. -/
inductive PutM (es : List (V × V)) (k v : V) : List (V × V) → Prop where
  | old {j : Nat} {k' v' : V} (h : es[j]? = some (k', v')) (he : flatV k' = flatV k) : PutM es k v (es.set j (k', v))
  | new (h : ∀ p ∈ es, flatV p.1 ≠ flatV k) : PutM es k v (es ++ [(k, v)])

theorem nodup_idx {α β : Type} {f : α → β} {l : List α} {i j : Nat} {p q : α} (hn : (l.map f).Nodup) (hi : l[i]? = some p) (hj : l[j]? = some q) (he : f p = f q) : i = j := by
  have h1 : (l.map f)[i]? = some (f p) := by simp [hi]
  have h2 : (l.map f)[j]? = some (f q) := by simp [hj]
  rw [← he] at h2
  have hil : i < (l.map f).length := (List.getElem?_eq_some_iff.1 h1).1
  have hjl : j < (l.map f).length := (List.getElem?_eq_some_iff.1 h2).1
  rw [List.getElem?_eq_getElem hil] at h1
  rw [List.getElem?_eq_getElem hjl] at h2
  exact (List.getElem_inj (h₀ := hil) (h₁ := hjl) hn).1 ((Option.some.inj h1).trans (Option.some.inj h2).symm)

theorem run_update {t k et : TypeId} {es es' : List (V × V)} {kv xv : V} (hu : P.underlying t = some (.map k et)) (K : Maps.Keyed P k) {g : Gh} {w : World} (hH : HR g H w) {o : Nat} {p : Place} (q1 : g.ρ[o]? = some p)
    (ho : H[o]? = some (.map es)) {x y : Value} (hx : RV g kv x) (hy : RV g xv y) (hk : keyOk P k kv) (hes : ∀ p ∈ es, keyOk P k p.1) (hnd : (es.map fun p => flatV p.1).Nodup) (hp : PutM es kv xv es') :
    ∃ w', (Instr.mapUpdate t (.map (some p.block)) x y).run P w = .ok () w' ∧ HR g (H.set o (.map es')) w' ∧ Ev g H w g (H.set o (.map es')) w' := by
  obtain ⟨ents, clock, b1, b2, b3⟩ := hH.obj o p _ q1 ho
  obtain ⟨_, hf, hkey⟩ := hk.get hx
  have hchk := K.check w false hkey
  have hI : ∀ i, g.I p.block i = none := by
    intro i
    cases hc : g.I p.block i with
    | none => rfl
    | some v =>
      have := hH.agree _ _ _ hc
      simp [World.cell?, b1] at this
  have hblk : p.block < w.heap.size := (Array.getElem?_eq_some_iff.1 b1).1
  have fin : ∀ (ents' : Array MapEntry) (clock' : Nat), REs g es' ents'.toList → (∀ e ∈ ents'.toList, e.born < clock') →
      HR g (H.set o (.map es')) { w with heap := w.heap.setIfInBounds p.block (.map ents' clock') } ∧ Ev g H w g (H.set o (.map es')) { w with heap := w.heap.setIfInBounds p.block (.map ents' clock') } := by
    intro ents' clock' h1 h2
    have hother : ∀ b, b ≠ p.block → (w.heap.setIfInBounds p.block (.map ents' clock'))[b]? = w.heap[b]? := fun b hb => by rw [Array.getElem?_setIfInBounds_ne (fun e => hb e.symm)]
    refine ⟨hH.write q1 ho rfl hI hother ⟨ents', clock', ?_, h1, h2⟩, Ev.write q1 ho rfl hother rfl rfl rfl (by simp) (Nat.le_refl _)⟩
    show (w.heap.setIfInBounds p.block (.map ents' clock'))[p.block]? = _
    rw [Array.getElem?_setIfInBounds_self_of_lt hblk]
  rcases run_find K b2 hx hk hes hnd (w := w) with ⟨f1, f2⟩ | ⟨j, e, pr, f1, f2, f3, f4, f5, f6, f7⟩
  · cases hp with
    | old h' he => exact absurd he (f2 _ (List.mem_of_getElem? h'))
    | new _ =>
      refine ⟨{ w with heap := w.heap.setIfInBounds p.block (.map (ents.push ⟨x, y, clock⟩) (clock + 1)) }, ?_, fin _ _ ?_ ?_⟩
      · simp [Instr.mapUpdate, run_underlying hu, MapKept.run_getObj_map b1, hchk, f1, MapKept.run_setObj_map _ b1]
      · rw [Array.toList_push]; exact b2.push hx hy
      · intro e he
        rw [Array.toList_push] at he
        rcases List.mem_append.1 he with he | he
        · have := b3 e he; omega
        · simp at he; subst he; simp
  · cases hp with
    | new hn => exact absurd f7 (hn _ (List.mem_of_getElem? f3))
    | @old j' k' v' h' he =>
      have hj : j = j' := nodup_idx (f := fun p : V × V => flatV p.1) hnd f3 h' (f7.trans he.symm)
      subst hj
      rw [f3] at h'
      cases h'
      have f2' : ents[j]? = some e := by simpa using f2
      have hst := K.stays w hkey
      refine ⟨{ w with heap := w.heap.setIfInBounds p.block (.map (ents.modify j fun e => { e with key := x, val := y }) clock) }, ?_, fin _ _ ?_ ?_⟩
      · simp [Instr.mapUpdate, run_underlying hu, MapKept.run_getObj_map b1, hchk, f1, f2', f6, hst, MapKept.run_setObj_map _ b1]
      · have : (ents.modify j fun e => { e with key := x, val := y }).toList = ents.toList.set j ⟨x, y, e.born⟩ := by
          apply List.ext_getElem?
          intro q
          rw [List.getElem?_set]
          simp only [Array.getElem?_toList, Array.getElem?_modify]
          by_cases hq : j = q
          · subst hq
            have hjl : j < ents.size := (Array.getElem?_eq_some_iff.1 f2').1
            rw [if_pos rfl, if_pos rfl, f2']
            simp [hjl]
          · rw [if_neg hq, if_neg hq]
        rw [this]
        exact b2.set (by rw [← f6]; exact f4) hy
      · intro e' he'
        obtain ⟨q, hq⟩ := List.mem_iff_getElem?.1 he'
        simp only [Array.getElem?_toList, Array.getElem?_modify] at hq
        split at hq
        · rename_i e2
          subst e2
          rw [f2'] at hq
          simp at hq
          subst hq
          exact b3 e (List.mem_of_getElem? f2)
        · exact b3 e' (List.mem_of_getElem? (by simpa using hq))

theorem OpS.mapUpdate {t k et : TypeId} {m i x : Operand} {o : Nat} {es es' : List (V × V)} {kv xv : V} (hu : P.underlying t = some (.map k et)) (K : Maps.Keyed P k) (hm : E m = .map o) (hi : E i = kv) (hx : E x = xv)
    (ho : H[o]? = some (.map es)) (hk : keyOk P k kv) (hes : ∀ p ∈ es, keyOk P k p.1) (hnd : (es.map fun p => flatV p.1).Nodup) (hp : PutM es kv xv es') :
    OpS P ⟨dst, .mapUpdate t m i x, ty, pos, aft, gd⟩ E H .undef (H.set o (.map es')) := by
  intro g rc w h hH
  obtain ⟨p, q1, q2⟩ := (hm ▸ h m (by simp [Op.operands])).map_eq
  obtain ⟨w', h1, h2, h3⟩ := run_update hu K hH q1 ho (hi ▸ h i (by simp [Op.operands])) (hx ▸ h x (by simp [Op.operands])) hk hes hnd hp
  have hrun : (execOp rc ⟨dst, .mapUpdate t m i x, ty, pos, aft, gd⟩).run P w = .ok .skip w' := by
    simp [execOp, q2, h1]
  rw [hrun]
  exact ⟨g, trivial, h2, h3⟩
theorem OpS.insert {t k et : TypeId} {m i x : Operand} {o : Nat} {es es' : List (V × V)} {kv xv : V} (hu : P.underlying t = some (.map k et)) (K : Maps.Keyed P k) (hm : E m = .map o) (hi : E i = kv) (hx : E x = xv)
    (ho : H[o]? = some (.map es)) (hk : keyOk P k kv) (hes : ∀ p ∈ es, keyOk P k p.1) (hnd : (es.map fun p => flatV p.1).Nodup) (hp : PutM es kv xv es') :
    OpS P ⟨dst, .insert t m i x, ty, pos, aft, gd⟩ E H .undef (H.set o (.map es')) := by
  intro g rc w h hH
  obtain ⟨p, q1, q2⟩ := (hm ▸ h m (by simp [Op.operands])).map_eq
  obtain ⟨w', h1, h2, h3⟩ := run_update hu K hH q1 ho (hi ▸ h i (by simp [Op.operands])) (hx ▸ h x (by simp [Op.operands])) hk hes hnd hp
  have hrun : (execOp rc ⟨dst, .insert t m i x, ty, pos, aft, gd⟩).run P w = .ok .skip w' := by
    simp [execOp, q2, h1]
  rw [hrun]
  exact ⟨g, trivial, h2, h3⟩
end

theorem mapM_of_all {α β : Type} {f : α → Option β} {g : α → β} : ∀ (l : List α), (∀ x ∈ l, f x = some (g x)) → l.mapM f = some (l.map g)
  | [], _ => rfl
  | a :: l, h => by
    rw [List.mapM_cons, h a (by simp), mapM_of_all l (fun x hx => h x (by simp [hx]))]
    rfl

/-- A key that is an array of integers. -/
theorem keyOf_ints {P : Program} {k e : TypeId} {n : Nat} {q : IntKind} (hu : P.underlying k = some (.array n e)) (he : P.underlying e = some (.int q)) (hc : P.cellsOf e = 1) (hn : P.cellsOf k = n) (hk : P.keyType k = true) (hs : 0 < P.types.size)
    {xs : List Int} (hl : xs.length = n) (hw : ∀ x ∈ xs, (Lit.int q x).wf = true) : ∃ l, keyOf P k (.agg (xs.map (Value.int q)).toArray) = some l := by
  obtain ⟨D, hD⟩ : ∃ D, P.types.size = D + 1 := ⟨P.types.size - 1, by omega⟩
  have hlits : ∃ ls, P.keyLits (P.types.size + 1) k (Value.agg (xs.map (Value.int q)).toArray).cells.toList = some ls := by
    rw [hD]
    unfold Program.keyLits
    simp only [hu, Value.cells]
    rw [if_pos (by simp [hl, hn])]
    have : (List.range n).mapM (fun i => P.keyLits (D + 1) e ((((xs.map (Value.int q)).toArray.toList.drop (i * P.cellsOf e))).take (P.cellsOf e))) = some ((List.range n).map fun i => [Lit.int q (xs.getD i 0)]) := by
      refine mapM_of_all _ fun i hi => ?_
      have hi' : i < xs.length := by rw [hl]; simpa using hi
      rw [hc, Nat.mul_one]
      have hd : ((xs.map (Value.int q)).toArray.toList.drop i).take 1 = [Value.int q (xs.getD i 0)] := by
        rw [List.toList_toArray, List.drop_eq_getElem_cons (by simpa using hi')]
        simp [List.getD, hi']
      rw [hd]
      unfold Program.keyLits
      simp only [he]
      rw [if_pos ⟨by trivial, hw _ (by rw [List.getD_eq_getElem?_getD, List.getElem?_eq_getElem hi']; exact List.getElem_mem _)⟩]
    rw [this]
    exact ⟨_, rfl⟩
  obtain ⟨ls, hls⟩ := hlits
  unfold keyOf
  rw [hu]
  simp only [hk, Bool.true_and]
  have hform : (Value.agg (xs.map (Value.int q)).toArray).formed P k = true := by
    simp [Value.formed, hu, hl, hn]
  rw [hform, hls]
  exact ⟨_, rfl⟩
end Go.Av
