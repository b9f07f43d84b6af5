/- Replicas that know locks: what stays true of them. -/
import Derived.Test.YtemcahobfhomiaaAvLLock
namespace Go.Av
set_option linter.unusedSimpArgs false
set_option linter.unusedVariables false

/-- A list of which the first ones were filled. -/
def fillL {α : Type} (n i : Nat) (a b : α) : List α := List.replicate i a ++ List.replicate (n - i) b
theorem fillL_len {α : Type} {n i : Nat} {a b : α} (h : i ≤ n) : (fillL n i a b).length = n := by simp [fillL]; omega
theorem fillL_set {α : Type} {n i : Nat} {a b : α} (h : i < n) : (fillL n i a b).set i a = fillL n (i + 1) a b := by
  unfold fillL
  rw [List.set_append_right _ _ (by simp), List.length_replicate, Nat.sub_self, show n - i = (n - (i + 1)) + 1 from by omega, List.replicate_succ, List.set_cons_zero, show List.replicate (i + 1) a = List.replicate i a ++ [a] from List.replicate_succ']
  simp
theorem fillL_full {α : Type} {n : Nat} {a b : α} : fillL n n a b = List.replicate n a := by simp [fillL]

structure Do where
  Verb : Int
  I : Int
  K : Int
  N : Int
def encDo (d : Do) : V := .st [.int .i64 d.Verb, .int .i64 d.I, .int .i64 d.K, .int .i64 d.N]
def do0 : Do := ⟨0, 0, 0, 0⟩
@[simp] theorem flen_encDo (l : Do) : flen (encDo l) = 4 := rfl
@[simp] theorem lt_encDo (m : Nat) (l : Do) : (encDo l).lt m = true := rfl
@[simp] theorem agg_encDo (l : Do) : (encDo l).isAgg = true := rfl
@[simp] theorem ok_encDo (l : Do) : okV (encDo l) = true := rfl
@[simp] theorem ltL_encDo {m : Nat} (l : List Do) : V.ltL m (l.map encDo) = true := ltL_map (fun _ => rfl) l
@[simp] theorem ltL_encLock {m : Nat} (l : List Lock) : V.ltL m (l.map encLock) = true := ltL_map (fun _ => rfl) l

abbrev tyDo : Ty := .st [.int .i64, .int .i64, .int .i64, .int .i64]
theorem dec_do {v : V} (h : hasTy tyDo v) : ∃ d : Do, v = encDo d := by
  simp only [hasTy, hasTys] at h
  obtain ⟨_, rfl, _, _, rfl, ⟨s, rfl, _⟩, _, _, rfl, ⟨v, rfl, _⟩, _, _, rfl, ⟨k, rfl, _⟩, _, _, rfl, ⟨n, rfl, _⟩, rfl⟩ := h
  exact ⟨⟨s, v, k, n⟩, rfl⟩
theorem decDos {e b : Nat} {v : V} (h : hasTy (.sl e b tyDo) v) : ∃ l : List Do, v = .sl e .no (l.map encDo) := by
  simp only [hasTy] at h
  obtain ⟨vs, rfl, _, _, h⟩ := h
  obtain ⟨l, rfl, _⟩ := decList (f := encDo) (Q := fun _ => True) fun x hx => by
    obtain ⟨d, hd⟩ := dec_do (v := x) (by simp only [hasTy]; exact h x hx)
    exact ⟨d, hd, trivial⟩
  exact ⟨l, rfl⟩
theorem decIDs {b : Nat} {as : List V} (h : hasTys [.int .i64, .sl 4 b tyDo] as) : ∃ (a : Int) (l : List Do), as = [.int .i64 a, .sl 4 .no (l.map encDo)] := by
  simp only [hasTys] at h
  obtain ⟨_, _, rfl, h1, _, _, rfl, h2, rfl⟩ := h
  obtain ⟨l, rfl⟩ := decDos h2
  simp only [hasTy] at h1
  obtain ⟨k, rfl, _⟩ := h1
  exact ⟨k, l, rfl⟩
theorem decIIDs {b : Nat} {as : List V} (h : hasTys [.int .i64, .int .i64, .sl 4 b tyDo] as) : ∃ (a v : Int) (l : List Do), as = [.int .i64 a, .int .i64 v, .sl 4 .no (l.map encDo)] := by
  simp only [hasTys] at h
  obtain ⟨_, _, rfl, h1, _, _, rfl, h2, _, _, rfl, h3, rfl⟩ := h
  obtain ⟨l, rfl⟩ := decDos h3
  simp only [hasTy] at h1 h2
  obtain ⟨k, rfl, _⟩ := h1
  obtain ⟨v, rfl, _⟩ := h2
  exact ⟨k, v, l, rfl⟩

/-- What replicas know: the newest of all, and of every other one its holder knows a newer one. -/
structure InvH (s : List Lock) (all : Lock) : Prop where
  len : s.length = 16
  rep : ∀ j, j < 16 → isR (s.getD j lock0).Holder = true
  le : ∀ j, j < 16 → ¬ gtL (s.getD j lock0) all
  knows : ∀ j, j < 16 → s.getD j lock0 = all ∨ gtL (s.getD (s.getD j lock0).Holder.toNat lock0) (s.getD j lock0)

theorem getD_set {α : Type} {s : List α} {i j : Nat} {x d : α} (hi : i < s.length) : (s.set i x).getD j d = if i = j then x else s.getD j d := by
  simp only [List.getD_eq_getElem?_getD, List.getElem?_set]
  split
  · subst_vars; simp [hi]
  · rfl

theorem InvH.start {a : Lock} (h : isR a.Holder = true) : InvH (List.replicate 16 a) a := by
  have e : ∀ j, j < 16 → (List.replicate 16 a).getD j lock0 = a := fun j hj => by rw [List.getD_eq_getElem?_getD, List.getElem?_replicate_of_lt hj]; rfl
  exact ⟨by simp, fun j hj => by rw [e j hj]; exact h, fun j hj => by rw [e j hj]; exact gtL_irr, fun j hj => .inl (e j hj)⟩

theorem toNat_lt16 {k : Int} (h : isR k = true) : k.toNat < 16 := by have := isR_iff.1 h; omega

theorem InvH.holder {s : List Lock} {all : Lock} (h : InvH s all) {I : Int} (hI : isR I = true) (e : (s.getD I.toNat lock0).Holder = I) : s.getD I.toNat lock0 = all ∧ all.Holder = I := by
  rcases h.knows I.toNat (toNat_lt16 hI) with k | k
  · exact ⟨k, by rw [← k]; exact e⟩
  · rw [e] at k; exact absurd k gtL_irr

theorem InvH.step {s : List Lock} {all x : Lock} (h : InvH s all) {I : Int} (hI : isR I = true) (hs : s.getD I.toNat lock0 = all) (ha : all.Holder = I) (hx : gtL x all) (hr : isR x.Holder = true) : InvH (s.set I.toNat x) x := by
  have hi : I.toNat < s.length := by rw [h.len]; exact toNat_lt16 hI
  have g : ∀ j, (s.set I.toNat x).getD j lock0 = if I.toNat = j then x else s.getD j lock0 := fun j => getD_set hi
  refine ⟨by simp [h.len], fun j hj => ?_, fun j hj => ?_, fun j hj => ?_⟩
  · rw [g]; split
    · exact hr
    · exact h.rep j hj
  · rw [g]; split
    · exact gtL_irr
    · intro k
      exact h.le j hj (gtL_trans k hx)
  · by_cases e : I.toNat = j
    · exact .inl (by rw [g, if_pos e])
    · refine .inr ?_
      have gj : (s.set I.toNat x).getD j lock0 = s.getD j lock0 := by rw [g, if_neg e]
      rw [gj, g]
      rcases h.knows j hj with k | k
      · rw [k, ha, if_pos rfl]; exact hx
      · split
        · rename_i e2
          rw [← e2, hs] at k
          exact gtL_trans hx k
        · exact k

theorem InvH.join {s : List Lock} {all : Lock} (h : InvH s all) {I K : Int} (hI : isR I = true) (hK : isR K = true) : InvH (s.set I.toNat (joinLock (s.getD I.toNat lock0) (s.getD K.toNat lock0))) all := by
  have hi : I.toNat < s.length := by rw [h.len]; exact toNat_lt16 hI
  rw [join_def]
  by_cases c : gtL (s.getD K.toNat lock0) (s.getD I.toNat lock0)
  case neg =>
    rw [if_neg c]
    have : s.set I.toNat (s.getD I.toNat lock0) = s := by
      apply List.ext_getElem?
      intro j
      rw [List.getElem?_set]
      split
      · subst_vars; simp [hi]
      · rfl
    rw [this]; exact h
  rw [if_pos c]
  have g : ∀ j, (s.set I.toNat (s.getD K.toNat lock0)).getD j lock0 = if I.toNat = j then s.getD K.toNat lock0 else s.getD j lock0 := fun j => getD_set hi
  have up : ∀ j x, gtL (s.getD j lock0) x → gtL ((s.set I.toNat (s.getD K.toNat lock0)).getD j lock0) x := by
    intro j x hx
    rw [g]; split
    · rename_i e; subst e; exact gtL_trans c hx
    · exact hx
  refine ⟨by simp [h.len], fun j hj => ?_, fun j hj => ?_, fun j hj => ?_⟩
  · rw [g]; split
    · exact h.rep _ (toNat_lt16 hK)
    · exact h.rep j hj
  · rw [g]; split
    · exact h.le _ (toNat_lt16 hK)
    · exact h.le j hj
  · have hk : ∀ j, j < 16 → s.getD j lock0 = all ∨ gtL ((s.set I.toNat (s.getD K.toNat lock0)).getD (s.getD j lock0).Holder.toNat lock0) (s.getD j lock0) := by
      intro j hj
      rcases h.knows j hj with k | k
      · exact .inl k
      · exact .inr (up _ _ k)
    by_cases e : I.toNat = j
    · have gj : (s.set I.toNat (s.getD K.toNat lock0)).getD j lock0 = s.getD K.toNat lock0 := by rw [g, if_pos e]
      rw [gj]; exact hk _ (toNat_lt16 hK)
    · have gj : (s.set I.toNat (s.getD K.toNat lock0)).getD j lock0 = s.getD j lock0 := by rw [g, if_neg e]
      rw [gj]; exact hk j hj

theorem write_holder {l : Lock} {k n : Int} (h : (writeLock l k n).2 = 0) : k = l.Holder := by
  unfold writeLock at h
  by_cases c : k = l.Holder
  · exact c
  · simp [c] at h
theorem pass_holder {l : Lock} {k n : Int} (h : (passLock l k n).2 = 0) : k = l.Holder := by
  unfold passLock at h
  by_cases c : k = l.Holder
  · exact c
  · simp [c] at h

theorem write_gt {l : Lock} {n : Int} (h : (writeLock l l.Holder n).2 = 0) : gtL (writeLock l l.Holder n).1 l ∧ (writeLock l l.Holder n).1.Holder = l.Holder := by
  obtain ⟨_, _, e⟩ := write_ok h
  rw [e]; exact ⟨by unfold gtL; simp; omega, rfl⟩
theorem pass_gt {l : Lock} {n : Int} (h : (passLock l l.Holder n).2 = 0) : gtL (passLock l l.Holder n).1 l ∧ isR (passLock l l.Holder n).1.Holder = true := by
  obtain ⟨_, r, e⟩ := pass_ok h
  rw [e]; exact ⟨by unfold gtL; simp; omega, r⟩

/-- What comes of a step, where it went well. -/
def Good (s : List Lock) (all : Lock) (I : Int) (x : Lock) : Prop := I = all.Holder ∧ s.getD I.toNat lock0 = all ∧ InvH (s.set I.toNat x) x

theorem InvH.write {s : List Lock} {all : Lock} (h : InvH s all) {I n : Int} (hI : isR I = true) (hw : (writeLock (s.getD I.toNat lock0) I n).2 = 0) : Good s all I (writeLock (s.getD I.toNat lock0) I n).1 := by
  have e := write_holder hw
  obtain ⟨h1, h2⟩ := h.holder hI e.symm
  rw [h1] at hw ⊢
  rw [← h2] at hw ⊢
  obtain ⟨g1, g2⟩ := write_gt hw
  rw [← h2] at h1
  refine ⟨rfl, h1, ?_⟩
  exact h.step (I := all.Holder) (by rw [h2]; exact hI) h1 rfl g1 (by rw [g2, h2]; exact hI)
theorem InvH.pass {s : List Lock} {all : Lock} (h : InvH s all) {I n : Int} (hI : isR I = true) (hw : (passLock (s.getD I.toNat lock0) I n).2 = 0) : Good s all I (passLock (s.getD I.toNat lock0) I n).1 := by
  have e := pass_holder hw
  obtain ⟨h1, h2⟩ := h.holder hI e.symm
  rw [h1] at hw ⊢
  rw [← h2] at hw ⊢
  obtain ⟨g1, g2⟩ := pass_gt hw
  rw [← h2] at h1
  refine ⟨rfl, h1, ?_⟩
  exact h.step (I := all.Holder) (by rw [h2]; exact hI) h1 rfl g1 g2
end Go.Av
