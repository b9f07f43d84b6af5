/- Replicas that know locks, and all states that there ever were. -/
import Derived.Test.YtemcahobfhomiaaAvLLock2
import Derived.Test.YtemcahobfhomiaaAvCore15
namespace Go.Av
set_option linter.unusedSimpArgs false
set_option linter.unusedVariables false

def keyV (a b : Int) : V := .arr 1 [.int .i64 a, .int .i64 b]
@[simp] theorem flen_keyV (a b : Int) : flen (keyV a b) = 2 := rfl
@[simp] theorem lt_keyV (m : Nat) (a b : Int) : (keyV a b).lt m = true := rfl
@[simp] theorem ok_keyV (a b : Int) : okV (keyV a b) = true := rfl
def encSeen (l : List Lock) : List (V × V) := l.map fun x => (keyV x.Seq x.Ver, encLock x)
@[simp] theorem esLt_encSeen (m : Nat) : ∀ (l : List Lock), esLt m (encSeen l) = true
  | [] => rfl
  | x :: l => by
    have := esLt_encSeen m l
    simp only [encSeen, List.map_cons] at this ⊢
    simp [esLt, this]
theorem flat_keyV (a b : Int) : flatV (keyV a b) = some (.agg #[.int .i64 a, .int .i64 b]) := rfl
theorem flat_keyV_iff {a b c d : Int} : flatV (keyV a b) = flatV (keyV c d) ↔ a = c ∧ b = d := by
  rw [flat_keyV, flat_keyV]
  simp

/-- Replicas, all states that there were, the newest. -/
structure InvO (s seen : List Lock) (last : Lock) : Prop where
  inv : InvH s last
  mem : ∀ j, j < 16 → s.getD j lock0 ∈ seen
  has : ∃ j, j < 16 ∧ s.getD j lock0 = last
  le : ∀ y ∈ seen, ¬ gtL y last
  nodup : (seen.map fun y => (y.Seq, y.Ver)).Nodup
  num : ∀ y ∈ seen, isN y.Seq = true ∧ isN y.Ver = true

theorem getM_some {seen : List Lock} {x : Lock} (h : x ∈ seen) : GetM (encSeen seen) (keyV x.Seq x.Ver) (some (encLock x)) :=
  .some (List.mem_map.2 ⟨x, h, rfl⟩) rfl
theorem getM_none {seen : List Lock} {x : Lock} (h : ∀ y ∈ seen, ¬ (y.Seq = x.Seq ∧ y.Ver = x.Ver)) : GetM (encSeen seen) (keyV x.Seq x.Ver) none :=
  .none fun p hp e => by
    obtain ⟨y, hy, rfl⟩ := List.mem_map.1 hp
    exact h y hy (flat_keyV_iff.1 e)
theorem putM_old {seen : List Lock} {x : Lock} (h : x ∈ seen) : PutM (encSeen seen) (keyV x.Seq x.Ver) (encLock x) (encSeen seen) := by
  obtain ⟨j, hj⟩ := List.mem_iff_getElem?.1 h
  have hj' : (encSeen seen)[j]? = some (keyV x.Seq x.Ver, encLock x) := by simp [encSeen, hj]
  have := PutM.old (k := keyV x.Seq x.Ver) (v := encLock x) hj' rfl
  have e : (encSeen seen).set j (keyV x.Seq x.Ver, encLock x) = encSeen seen := by
    apply List.ext_getElem?
    intro q
    rw [List.getElem?_set]
    split
    · subst_vars
      have hl := (List.getElem?_eq_some_iff.1 hj').1
      rw [if_pos hl, hj']
    · rfl
  rwa [e] at this
theorem putM_new {seen : List Lock} {x : Lock} (h : ∀ y ∈ seen, ¬ (y.Seq = x.Seq ∧ y.Ver = x.Ver)) : PutM (encSeen seen) (keyV x.Seq x.Ver) (encLock x) (encSeen (seen ++ [x])) := by
  have := PutM.new (es := encSeen seen) (k := keyV x.Seq x.Ver) (v := encLock x) fun p hp e => by
    obtain ⟨y, hy, rfl⟩ := List.mem_map.1 hp
    exact h y hy (flat_keyV_iff.1 e)
  simpa [encSeen] using this

theorem seen_nodup {seen : List Lock} (h : (seen.map fun y => (y.Seq, y.Ver)).Nodup) : ((encSeen seen).map fun p => flatV p.1).Nodup := by
  unfold encSeen
  rw [List.map_map]
  have e : ((fun p : V × V => flatV p.1) ∘ fun x : Lock => (keyV x.Seq x.Ver, encLock x)) = (fun z : Int × Int => some (Value.agg #[.int .i64 z.1, .int .i64 z.2])) ∘ fun y : Lock => (y.Seq, y.Ver) := by
    funext x; rfl
  rw [e, ← List.map_map]
  refine List.pairwise_map.2 (List.Pairwise.imp ?_ h)
  intro a b hab e
  simp at e
  exact hab (Prod.ext e.1 e.2)

/-- What a step comes to: a state that there was, or one that is newer than all. -/
inductive StepO (s seen : List Lock) (last : Lock) (I : Int) (x : Lock) : Prop where
  | old (h : x ∈ seen) (hi : InvO (s.set I.toNat x) seen last)
  | new (h : ∀ y ∈ seen, ¬ (y.Seq = x.Seq ∧ y.Ver = x.Ver)) (hg : gtL x last) (hi : InvO (s.set I.toNat x) (seen ++ [x]) x)

theorem InvO.fresh {s seen : List Lock} {last x : Lock} (h : InvO s seen last) {I : Int} (hI : isR I = true) (hG : Good s last I x) (hgt : last.Seq < x.Seq ∨ last.Seq = x.Seq ∧ last.Ver < x.Ver) (hn : isN x.Seq = true ∧ isN x.Ver = true) : StepO s seen last I x := by
  have hgx : gtL x last := by unfold gtL; omega
  have hfr : ∀ y ∈ seen, ¬ (y.Seq = x.Seq ∧ y.Ver = x.Ver) := by
    intro y hy ⟨e1, e2⟩
    have := h.le y hy
    unfold gtL at this
    omega
  refine .new hfr hgx ⟨hG.2.2, fun j hj => ?_, ⟨I.toNat, toNat_lt16 hI, ?_⟩, fun y hy => ?_, ?_, fun y hy => ?_⟩
  · rw [getD_set (by rw [h.inv.len]; exact toNat_lt16 hI)]
    split
    · simp
    · exact List.mem_append_left _ (h.mem j hj)
  · rw [getD_set (by rw [h.inv.len]; exact toNat_lt16 hI), if_pos rfl]
  · rcases List.mem_append.1 hy with hy | hy
    · intro k
      have := h.le y hy
      exact this (gtL_trans k hgx)
    · simp at hy; subst hy; exact gtL_irr
  · rw [List.map_append, List.nodup_append]
    refine ⟨h.nodup, by simp, ?_⟩
    intro a ha b hb e
    subst e
    obtain ⟨y, hy, rfl⟩ := List.mem_map.1 ha
    simp at hb
    exact hfr y hy hb
  · rcases List.mem_append.1 hy with hy | hy
    · exact h.num y hy
    · simp at hy; subst hy; exact hn
theorem InvO.write {s seen : List Lock} {last : Lock} (h : InvO s seen last) {I n : Int} (hI : isR I = true) (hw : (writeLock (s.getD I.toNat lock0) I n).2 = 0) :
    StepO s seen last I (writeLock (s.getD I.toNat lock0) I n).1 := by
  have hG := h.inv.write hI hw
  have e := write_holder hw
  have hl := h.num _ (h.mem _ (toNat_lt16 hI))
  obtain ⟨a1, a2, a3⟩ := write_ok (l := s.getD I.toNat lock0) (n := n) (by rw [← e]; exact hw)
  rw [← e] at a3
  have h1 : (writeLock (s.getD I.toNat lock0) I n).1.Seq = last.Seq := by rw [a3, ← hG.2.1]
  have h2 : (writeLock (s.getD I.toNat lock0) I n).1.Ver = last.Ver + 1 := by rw [a3, ← hG.2.1]
  refine h.fresh hI hG (.inr ⟨h1.symm, by omega⟩) ⟨by rw [a3]; exact hl.1, ?_⟩
  rw [a3]; exact (okAdd_iff.1 a1).2.2
theorem InvO.pass {s seen : List Lock} {last : Lock} (h : InvO s seen last) {I n : Int} (hI : isR I = true) (hw : (passLock (s.getD I.toNat lock0) I n).2 = 0) :
    StepO s seen last I (passLock (s.getD I.toNat lock0) I n).1 := by
  have hG := h.inv.pass hI hw
  have e := pass_holder hw
  obtain ⟨a1, a2, a3⟩ := pass_ok (l := s.getD I.toNat lock0) (k := n) (by rw [← e]; exact hw)
  rw [← e] at a3
  have h1 : (passLock (s.getD I.toNat lock0) I n).1.Seq = last.Seq + 1 := by rw [a3, ← hG.2.1]
  refine h.fresh hI hG (.inl (by omega)) ⟨?_, by rw [a3]; show isN 0 = true; decide⟩
  rw [a3]; exact (okAdd_iff.1 a1).2.2

theorem InvO.keep {s seen : List Lock} {last : Lock} (h : InvO s seen last) {I : Int} (hI : isR I = true) : StepO s seen last I (s.getD I.toNat lock0) := by
  have hi : I.toNat < s.length := by rw [h.inv.len]; exact toNat_lt16 hI
  have : s.set I.toNat (s.getD I.toNat lock0) = s := by
    apply List.ext_getElem?
    intro j
    rw [List.getElem?_set]
    split
    · subst_vars; simp [hi]
    · rfl
  exact .old (h.mem _ (toNat_lt16 hI)) (by rw [this]; exact h)

theorem InvO.join {s seen : List Lock} {last : Lock} (h : InvO s seen last) {I K : Int} (hI : isR I = true) (hK : isR K = true) : StepO s seen last I (joinLock (s.getD I.toNat lock0) (s.getD K.toNat lock0)) := by
  have hi : I.toNat < s.length := by rw [h.inv.len]; exact toNat_lt16 hI
  have hin : joinLock (s.getD I.toNat lock0) (s.getD K.toNat lock0) ∈ seen := by
    rw [join_def]; split
    · exact h.mem _ (toNat_lt16 hK)
    · exact h.mem _ (toNat_lt16 hI)
  refine .old hin ⟨h.inv.join hI hK, fun j hj => ?_, ?_, h.le, h.nodup, h.num⟩
  · rw [getD_set hi]; split
    · exact hin
    · exact h.mem j hj
  · obtain ⟨j, hj, e⟩ := h.has
    refine ⟨j, hj, ?_⟩
    rw [getD_set hi]
    split
    · rename_i e2
      rw [e2, e, join_def, if_neg]
      exact h.le _ (h.mem _ (toNat_lt16 hK))
    · exact e

theorem InvO.start {a : Lock} (h : isR a.Holder = true) (hn : isN a.Seq = true ∧ isN a.Ver = true) : InvO (List.replicate 16 a) [a] a := by
  have e : ∀ j, j < 16 → (List.replicate 16 a).getD j lock0 = a := fun j hj => by rw [List.getD_eq_getElem?_getD, List.getElem?_replicate_of_lt hj]; rfl
  exact ⟨.start h, fun j hj => by rw [e j hj]; simp, ⟨0, by omega, e 0 (by omega)⟩, fun y hy => by simp at hy; subst hy; exact gtL_irr, by simp, fun y hy => by simp at hy; subst hy; exact hn⟩

/-- The newest of the first ones. -/
def joinAll (a : Lock) (l : List Lock) : Lock := l.foldl joinLock a
theorem joinAll_le {last : Lock} : ∀ {l : List Lock} {a : Lock}, ¬ gtL a last → (∀ y ∈ l, ¬ gtL y last) → ¬ gtL (joinAll a l) last
  | [], _, ha, _ => ha
  | x :: l, a, ha, h => by
    refine joinAll_le (l := l) ?_ (fun y hy => h y (by simp [hy]))
    rw [join_def]; split
    · exact h x (by simp)
    · exact ha
theorem joinAll_ge : ∀ {l : List Lock} {a y : Lock}, (y = a ∨ y ∈ l) → ¬ gtL y (joinAll a l)
  | [], a, y, h => by
    rcases h with rfl | h
    · exact gtL_irr
    · simp at h
  | x :: l, a, y, h => by
    show ¬ gtL y (joinAll (joinLock a x) l)
    have up : ∀ z, ¬ gtL z (joinLock a x) → ¬ gtL z (joinAll (joinLock a x) l) := by
      intro z hz k
      have := joinAll_ge (l := l) (a := joinLock a x) (y := joinLock a x) (.inl rfl)
      rcases gtL_tri (joinLock a x) z with q | q | q
      · exact this (gtL_trans q k)
      · subst q; exact this k
      · exact hz q
    rcases h with rfl | h
    · exact up _ (join_left _ _)
    · rcases List.mem_cons.1 h with rfl | h
      · exact up _ (join_right _ _)
      · exact joinAll_ge (.inr h)
theorem InvO.all {s seen : List Lock} {last a : Lock} (h : InvO s seen last) (ha : ¬ gtL a last) : joinAll a s = last := by
  obtain ⟨j, hj, e⟩ := h.has
  have hm : last ∈ s := by
    rw [← e, List.getD_eq_getElem?_getD, List.getElem?_eq_getElem (by rw [h.inv.len]; exact hj)]
    exact List.getElem_mem _
  have h1 := joinAll_ge (l := s) (a := a) (.inr hm)
  have h2 := joinAll_le (last := last) (l := s) ha (fun y hy => by
    obtain ⟨q, hq⟩ := List.mem_iff_getElem?.1 hy
    have hql : q < 16 := by rw [← h.inv.len]; exact (List.getElem?_eq_some_iff.1 hq).1
    have := h.inv.le q hql
    rwa [List.getD_eq_getElem?_getD, hq] at this)
  rcases gtL_tri last (joinAll a s) with q | q | q
  · exact absurd q h1
  · exact q.symm
  · exact absurd q h2
theorem joinAll_take {a : Lock} {s : List Lock} {i : Nat} (h : i < s.length) : joinAll a (s.take (i + 1)) = joinLock (joinAll a (s.take i)) (s.getD i lock0) := by
  unfold joinAll
  rw [List.take_add_one, List.foldl_append, List.getD_eq_getElem?_getD, List.getElem?_eq_getElem h]
  rfl
end Go.Av
