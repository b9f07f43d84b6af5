/- The plain law: what the mirrors answer. -/
import Derived.Test.YtakadpmjdhcckabGreatAvFieldLooseM1
namespace Go.Av
set_option linter.unusedSectionVars false
set_option linter.unusedVariables false
set_option linter.unusedSimpArgs false

theorem fuel_big : 1000000000000000 < fuel := by decide
theorem wr_id {n : Int} (h : -9223372036854775808 ≤ n ∧ n ≤ 9223372036854775807) : wr .i64 n = n := wrap_id h.1 h.2
theorem wr_succ {i : Nat} (h : i < 1000000000000000) : wr .i64 ((i : Int) + 1) = ((i + 1 : Nat) : Int) := by rw [wr_id (by omega)]; omega
theorem six_of {α : Type} {xs : List α} {i : Nat} (h : i < xs.length) : six xs (i : Int) = some i := by simp [six]; omega
theorem app_of {α : Type} {b : Nat} {xs ys : List α} (h : (xs.length + ys.length) * b ≤ 140737488355328) : app b xs ys = some (xs ++ ys) := by simp [app, h]
@[simp] theorem gd_t {α : Type} [Inhabited α] {p : Prop} [Decidable p] {m : Option α} (h : p) : gd p m = m := by simp [gd, h]
@[simp] theorem gd_f {α : Type} [Inhabited α] {p : Prop} [Decidable p] {m : Option α} (h : ¬ p) : gd p m = some default := by simp [gd, h]
@[simp] theorem letM_eq {α β : Type} (e : α) (k : α → Option β) : letM e k = k e := rfl
@[simp] theorem onS_l {α β γ : Type} (f : α → Option γ) (g : β → Option γ) (a : α) : onS f g (.inl a) = f a := rfl
@[simp] theorem onS_r {α β γ : Type} (f : α → Option γ) (g : β → Option γ) (b : β) : onS f g (.inr b) = g b := rfl
theorem fix_of {k i : Nat} (h : i < k) : fix_ k (i : Int) = some ⟨i, h⟩ := by simp [fix_]; omega

section
variable {σ ρ : Type} {body : σ → Option (σ ⊕ ρ)}
theorem loopM_ind' (I : Nat → σ → Prop) (N : Nat) (Q : ρ → Prop) (step : ∀ i s, i < N → I i s → (∃ t, body s = some (.inl t) ∧ I (i + 1) t) ∨ (∃ r, body s = some (.inr r) ∧ Q r)) (fin : ∀ s, I N s → ∃ r, body s = some (.inr r) ∧ Q r) :
    ∀ (k i : Nat) (s : σ), i + k = N → I i s → ∀ n, k < n → ∃ r, loopM body n s = some r ∧ Q r
  | k, i, s, hk, hI, 0, hn => by omega
  | 0, i, s, hk, hI, n + 1, hn => by
    obtain rfl : i = N := by omega
    obtain ⟨r, h1, h2⟩ := fin s hI
    exact ⟨r, by simp [loopM, h1], h2⟩
  | k + 1, i, s, hk, hI, n + 1, hn => by
    rcases step i s (by omega) hI with ⟨t, h1, h2⟩ | ⟨r, h1, h2⟩
    · obtain ⟨r, h3, h4⟩ := loopM_ind' I N Q step fin k (i + 1) t (by omega) h2 n (by omega)
      exact ⟨r, by simp [loopM, h1, h3], h4⟩
    · exact ⟨r, by simp [loopM, h1], h2⟩
theorem loopM_ind (I : Nat → σ → Prop) (N : Nat) (hN : N ≤ 1000000000000000) (Q : ρ → Prop) (step : ∀ i s, i < N → I i s → (∃ t, body s = some (.inl t) ∧ I (i + 1) t) ∨ (∃ r, body s = some (.inr r) ∧ Q r))
    (fin : ∀ s, I N s → ∃ r, body s = some (.inr r) ∧ Q r) {s0 : σ} (h0 : I 0 s0) : ∃ r, loopM body fuel s0 = some r ∧ Q r :=
  loopM_ind' I N Q step fin N 0 s0 (by omega) h0 fuel (by have := fuel_big; omega)
theorem loopM_eq (I : Nat → σ → Prop) (N : Nat) (hN : N ≤ 1000000000000000) (q : ρ) (step : ∀ i s, i < N → I i s → (∃ t, body s = some (.inl t) ∧ I (i + 1) t) ∨ (body s = some (.inr q)))
    (fin : ∀ s, I N s → body s = some (.inr q)) {s0 : σ} (h0 : I 0 s0) : loopM body fuel s0 = some q := by
  obtain ⟨r, h1, rfl⟩ := loopM_ind I N hN (fun r => r = q) (fun i s hi hI => (step i s hi hI).imp id fun h => ⟨q, h, rfl⟩) (fun s hI => ⟨q, fin s hI, rfl⟩) h0
  exact h1
end

/-- A loop over numbers that stops at the first one that is told to. -/
theorem loop_find {ρ : Type} {body : Int → Option (Int ⊕ ρ)} (N : Nat) (hN : N ≤ 1000000000000000) (bad : Nat → Option ρ) (fin : ρ) (hb : ∀ i, i < N → body (i : Int) = some (match bad i with | some r => .inr r | none => .inl (((i + 1 : Nat)) : Int)))
    (hf : body (N : Int) = some (.inr fin)) : loopM body fuel 0 = some (((List.range N).findSome? bad).getD fin) := by
  refine loopM_eq (fun i s => s = (i : Int) ∧ ∀ j, j < i → bad j = none) N hN _ ?_ ?_ ⟨rfl, fun j h => by omega⟩
  · rintro i s hi ⟨rfl, hI⟩
    cases hbi : bad i with
    | none =>
      refine .inl ⟨_, by rw [hb i hi, hbi], rfl, fun j hj => ?_⟩
      rcases Nat.lt_succ_iff_lt_or_eq.1 hj with h | rfl
      · exact hI j h
      · exact hbi
    | some r =>
      refine .inr ?_
      rw [hb i hi, hbi]
      have : (List.range N).findSome? bad = some r := by
        rw [show N = i + (N - i) from by omega, List.range_add, List.findSome?_append]
        have h1 : (List.range i).findSome? bad = none := by
          rw [List.findSome?_eq_none_iff]; intro x hx; exact hI x (by simpa using hx)
        rw [h1]
        obtain ⟨m, hm⟩ : ∃ m, N - i = m + 1 := ⟨N - i - 1, by omega⟩
        rw [hm, List.range_succ_eq_map]
        simp [hbi]
      simp [this]
  · rintro s ⟨rfl, hI⟩
    rw [hf]
    have : (List.range N).findSome? bad = none := by rw [List.findSome?_eq_none_iff]; intro x hx; exact hI x (by simpa using hx)
    simp [this]

theorem foldl_range_list {α σ : Type} (xs : List α) (d : α) (g : σ → α → σ) (s0 : σ) : (List.range xs.length).foldl (fun s i => g s (xs.getD i d)) s0 = xs.foldl g s0 := by
  have : (List.range xs.length).map (fun i => xs.getD i d) = xs := by
    apply List.ext_getElem (by simp)
    intro i h1 h2
    simp [List.getD, h2]
  conv => rhs; rw [← this]
  rw [List.foldl_map]

/-- A loop over numbers that carries something along. -/
theorem loop_fold {σ ρ : Type} {body : Int × σ → Option ((Int × σ) ⊕ ρ)} (N : Nat) (hN : N ≤ 1000000000000000) (f : σ → Nat → σ) (out : σ → ρ) (J : Nat → σ → Prop) {s0 : σ} (h0 : J 0 s0)
    (hb : ∀ i s, i < N → J i s → body ((i : Int), s) = some (.inl ((((i + 1 : Nat)) : Int), f s i)) ∧ J (i + 1) (f s i)) (hf : ∀ s, J N s → body ((N : Int), s) = some (.inr (out s))) : loopM body fuel (0, s0) = some (out ((List.range N).foldl f s0)) ∧ J N ((List.range N).foldl f s0) := by
  have key : ∀ k, k ≤ N → J k ((List.range k).foldl f s0) := by
    intro k
    induction k with
    | zero => intro _; exact h0
    | succ k ih =>
      intro hk
      rw [List.range_succ, List.foldl_append]
      exact (hb k _ (by omega) (ih (by omega))).2
  refine ⟨?_, key N (Nat.le_refl _)⟩
  refine loopM_eq (fun i s => s = ((i : Int), (List.range i).foldl f s0)) N hN _ ?_ ?_ rfl
  · rintro i s hi rfl
    refine .inl ⟨_, (hb i _ hi (key i (by omega))).1, ?_⟩
    rw [List.range_succ, List.foldl_append]; rfl
  · rintro s rfl
    exact hf _ (key N (Nat.le_refl _))
end Go.Av
namespace Go.Av
set_option linter.unusedSectionVars false
set_option linter.unusedVariables false
set_option linter.unusedSimpArgs false

/-- A loop over numbers that stops at the first one that is not good. -/
theorem loop_all {ρ ξ : Type} {body : Int → Option (Int ⊕ (ξ ⊕ ρ))} (N : Nat) (hN : N ≤ 1000000000000000) (good : Nat → Prop) [DecidablePred good] (r : ρ) (x : ξ)
    (hb : ∀ i, i < N → body (i : Int) = some (if good i then .inl (((i + 1 : Nat)) : Int) else .inr (.inr r))) (hf : body (N : Int) = some (.inr (.inl x))) :
    loopM body fuel 0 = some (if ∀ i, i < N → good i then .inl x else .inr r) := by
  have h := loop_find (body := body) N hN (fun i => if good i then none else some (.inr r)) (.inl x) (fun i hi => by rw [hb i hi]; by_cases h : good i <;> simp [-List.getD_eq_getElem?_getD, h]) hf
  rw [h]
  by_cases hg : ∀ i, i < N → good i
  · have : (List.range N).findSome? (fun i => if good i then none else some (.inr r : ξ ⊕ ρ)) = none := by
      rw [List.findSome?_eq_none_iff]; intro i hi; simp [-List.getD_eq_getElem?_getD, hg i (by simpa using hi)]
    rw [this]; simp [-List.getD_eq_getElem?_getD, if_pos hg]
  · obtain ⟨v, hv⟩ : ∃ v, (List.range N).findSome? (fun i => if good i then none else some (.inr r : ξ ⊕ ρ)) = some v := by
      cases hc : (List.range N).findSome? (fun i => if good i then none else some (.inr r : ξ ⊕ ρ)) with
      | some v => exact ⟨v, rfl⟩
      | none =>
        rw [List.findSome?_eq_none_iff] at hc
        exact (hg fun i hi => by have := hc i (by simpa using hi); by_cases h : good i; exact h; simp [-List.getD_eq_getElem?_getD, h] at this).elim
    obtain ⟨i, hi, hv2⟩ := List.exists_of_findSome?_eq_some hv
    rw [hv, if_neg hg]
    by_cases h : good i <;> simp [-List.getD_eq_getElem?_getD, h] at hv2
    simp [-List.getD_eq_getElem?_getD, hv2]

def IsN (n : Int) : Prop := -1099511627776 ≤ n ∧ n ≤ 1099511627776
instance (n : Int) : Decidable (IsN n) := by unfold IsN; infer_instance
theorem sd {b : Bool} {P : Prop} [Decidable P] (h : b = true ↔ P) : some b = some (decide P) := by rw [show b = decide P from Bool.eq_iff_iff.2 (by simpa using h)]
theorem num_Is_eq (n : Int) : num_Is n = some (decide (IsN n)) := sd (by simp [-List.getD_eq_getElem?_getD, IsN])
theorem gd_and {p b : Bool} : gd (p = true) (some b) = some (if p = true then b else false) := by cases p <;> rfl
theorem wr_pred {i : Nat} (h0 : 0 < i) (h : i < 1000000000000000) : wr .i64 ((i : Int) - 1) = ((i - 1 : Nat) : Int) := by rw [wr_id (by omega)]; omega
end Go.Av
namespace Go.Av
set_option linter.unusedSectionVars false
set_option linter.unusedVariables false
set_option linter.unusedSimpArgs false

def Cnt (n : Int) : Prop := 0 ≤ n ∧ n ≤ 1099511627776
instance (n : Int) : Decidable (Cnt n) := by unfold Cnt; infer_instance
def HOk (h : THold) : Prop := 0 ≤ h.Replica ∧ h.Replica < 16 ∧ 1 ≤ h.Number ∧ h.Number ≤ 1099511627776 ∧ Cnt h.Amount ∧ Cnt h.Due ∧ 1 ≤ h.State ∧ h.State ≤ 3
instance (h : THold) : Decidable (HOk h) := by unfold HOk; infer_instance
theorem hold_count_eq (n : Int) : hold_count n = some (decide (Cnt n)) := by
  unfold hold_count
  rw [num_Is_eq]
  by_cases h : 0 ≤ n
  · rw [gd_t (by simp [h])]; refine sd ?_; simp only [Bool.and_eq_true, decide_eq_true_eq]; unfold IsN Cnt; omega
  · rw [gd_f (by simp [-List.getD_eq_getElem?_getD, h])]; refine sd ?_; simp [-List.getD_eq_getElem?_getD, h, Cnt]
theorem hold_Right_eq (h : THold) : hold_Right h = some (decide (HOk h)) := by
  unfold hold_Right
  simp only [num_Is_eq, hold_count_eq, letM_eq, gd_and, Option.bind]
  refine sd ?_
  simp only [Bool.and_eq_true, Bool.if_false_right, decide_eq_true_eq]
  first | unfold HOk IsN Cnt | unfold HOk Cnt
  omega
def HLt (a b : THold) : Prop := a.Replica < b.Replica ∨ (a.Replica = b.Replica ∧ a.Number < b.Number)
instance (a b : THold) : Decidable (HLt a b) := by unfold HLt; infer_instance
theorem HLt.trans {a b c : THold} (h : HLt a b) (k : HLt b c) : HLt a c := by unfold HLt at *; omega
theorem cmp_ge (a b : THold) : 0 ≤ holdCmp a b ↔ ¬ HLt a b := by
  unfold holdCmp HLt
  by_cases h : a.Replica = b.Replica
  · by_cases h1 : a.Number = b.Number
    · simp [-List.getD_eq_getElem?_getD, h, h1]
    · by_cases h2 : a.Number < b.Number <;> simp [-List.getD_eq_getElem?_getD, h, h1, h2]
  · by_cases h2 : a.Replica < b.Replica <;> simp [-List.getD_eq_getElem?_getD, h, h2]
def Rts (l : List THold) : Prop := (∀ h ∈ l, HOk h) ∧ l.Pairwise HLt ∧ l.length ≤ 16
instance (l : List THold) : Decidable (Rts l) := by unfold Rts; infer_instance
def Link (l : List THold) (i : Nat) : Prop := HOk (l.getD i default) ∧ (0 < i → HLt (l.getD (i - 1) default) (l.getD i default))
instance (l : List THold) : DecidablePred (Link l) := fun i => by unfold Link; infer_instance
theorem links_iff (l : List THold) : (∀ i, i < l.length → Link l i) ↔ (∀ h ∈ l, HOk h) ∧ l.Pairwise HLt := by
  constructor
  · intro h
    refine ⟨fun x hx => ?_, ?_⟩
    · obtain ⟨i, hi, rfl⟩ := List.getElem_of_mem hx
      simpa [List.getD, hi] using (h i hi).1
    · rw [List.pairwise_iff_getElem]
      intro i j hi hj hij
      induction j with
      | zero => omega
      | succ j ih =>
        have h1 := (h (j + 1) hj).2 (by omega)
        have e1 : l.getD (j + 1 - 1) default = l[j] := by simp [List.getD, show j < l.length by omega]
        have e2 : l.getD (j + 1) default = l[j + 1] := by simp [List.getD, hj]
        rw [e1, e2] at h1
        rcases Nat.lt_succ_iff_lt_or_eq.1 hij with h2 | rfl
        · exact (ih (by omega) h2).trans h1
        · exact h1
  · rintro ⟨h1, h2⟩ i hi
    rw [List.pairwise_iff_getElem] at h2
    refine ⟨by rw [show l.getD i default = l[i] by simp [List.getD, hi]]; exact h1 _ (List.getElem_mem hi), fun h0 => ?_⟩
    rw [show l.getD i default = l[i] by simp [List.getD, hi], show l.getD (i - 1) default = l[i - 1] by simp [List.getD, show i - 1 < l.length by omega]]
    exact h2 _ _ (by omega) hi (by omega)

theorem hold_Rights_eq (l : List THold) (hl : l.length ≤ 1000000000000000) : hold_Rights l = some (decide (Rts l)) := by
  unfold hold_Rights
  rw [loop_all l.length hl (Link l) false () (fun i hi => ?_) (by simp [-List.getD_eq_getElem?_getD, hold_Rights_L1])]
  · by_cases h : ∀ i, i < l.length → Link l i
    · rw [if_pos h]
      have := (links_iff l).1 h
      refine sd ?_
      simp only [Rts, this.1, this.2, true_and, decide_eq_true_eq]
      exact ⟨fun h => ⟨this.1, by omega⟩, fun h => by omega⟩
    · rw [if_neg h]
      have : ¬ Rts l := fun h2 => h ((links_iff l).2 ⟨h2.1, h2.2.1⟩)
      simp [-List.getD_eq_getElem?_getD, this]
  · simp only [hold_Rights_L1, hold_Right_eq, six_of hi, letM_eq, Option.bind]
    rw [if_pos (by simp; omega)]
    simp only [wr_succ (show i < 1000000000000000 by omega)]
    by_cases h1 : HOk (l.getD i default)
    · by_cases h0 : 0 < i
      · rw [gd_t (by simp [-List.getD_eq_getElem?_getD, h1, h0]), wr_pred h0 (by omega), six_of (by omega)]
        simp only [Option.bind]
        rw [gd_t (by simp [-List.getD_eq_getElem?_getD, h1, h0]), hold_compare_eq]
        simp only [Option.bind, cmp_ge, Link, h1, h0, true_and]
        by_cases h2 : HLt (l.getD (i - 1) default) (l.getD i default) <;> simp [-List.getD_eq_getElem?_getD, h2, h0]
      · obtain rfl : i = 0 := by omega
        simp [-List.getD_eq_getElem?_getD, h1, Link]
    · have : ¬ Link l i := fun h => h1 h.1
      rw [gd_f (by simp [-List.getD_eq_getElem?_getD, h1])]
      simp only [Option.bind]
      rw [gd_f (by simp [-List.getD_eq_getElem?_getD, h1])]
      simp [-List.getD_eq_getElem?_getD, h1, this]
end Go.Av
namespace Go.Av
set_option linter.unusedSectionVars false
set_option linter.unusedVariables false
set_option linter.unusedSimpArgs false

def sumStep (r : Int) (s : Int) (h : THold) : Int := if (decide (h.Replica = r) && decide (h.State = 1)) = true then min (wr .i64 (s + h.Amount)) 1099511627776 else s
def SumS (l : List THold) (r : Int) : Int := l.foldl (sumStep r) 0
theorem hold_Sum_eq (l : List THold) (r : Int) (hl : l.length ≤ 1000000000000) : hold_Sum l r = some (SumS l r) := by
  unfold hold_Sum
  rw [(loop_fold l.length (by omega) (fun s i => sumStep r s (l.getD i default)) id (fun _ _ => True) trivial (fun i s hi _ => ⟨?_, trivial⟩) (fun s _ => by simp [hold_Sum_L1])).1]
  · simp only [Option.bind, id, SumS]; rw [foldl_range_list]
  · simp only [hold_Sum_L1, six_of hi, letM_eq, Option.bind, sumStep]
    rw [if_pos (by simp; omega)]
    simp only [wr_succ (show i < 1000000000000000 by omega)]
    split <;> rfl
end Go.Av
namespace Go.Av
set_option linter.unusedSectionVars false
set_option linter.unusedVariables false
set_option linter.unusedSimpArgs false

theorem loop_first {α ξ ρ : Type} [Inhabited α] {body : Int → Option (Int ⊕ (ξ ⊕ ρ))} (l : List α) (hl : l.length ≤ 1000000000000000) (p : α → Bool) (q : Nat → ρ) (x : ξ)
    (hb : ∀ i, i < l.length → body (i : Int) = some (if p (l.getD i default) = true then .inr (.inr (q i)) else .inl (((i + 1 : Nat)) : Int))) (hf : body (l.length : Int) = some (.inr (.inl x))) :
    loopM body fuel 0 = some (match l.findIdx? p with | some i => .inr (q i) | none => .inl x) := by
  refine loopM_eq (fun i s => s = (i : Int) ∧ ∀ j, j < i → p (l.getD j default) = false) l.length hl _ ?_ ?_ ⟨rfl, fun j h => by omega⟩
  · rintro i s hi ⟨rfl, hI⟩
    rw [hb i hi]
    by_cases h : p (l.getD i default) = true
    · refine .inr ?_
      rw [if_pos h]
      have : l.findIdx? p = some i := by
        rw [List.findIdx?_eq_some_iff_getElem]
        refine ⟨hi, by simpa [List.getD, hi] using h, fun j hj => ?_⟩
        have := hI j hj
        simp [List.getD, show j < l.length by omega] at this
        simp [this]
      rw [this]
    · refine .inl ⟨_, by rw [if_neg h], rfl, fun j hj => ?_⟩
      rcases Nat.lt_succ_iff_lt_or_eq.1 hj with h2 | rfl
      · exact hI j h2
      · simpa using h
  · rintro s ⟨rfl, hI⟩
    rw [hf]
    have : l.findIdx? p = none := by
      rw [List.findIdx?_eq_none_iff]
      intro y hy
      obtain ⟨i, hi, rfl⟩ := List.getElem_of_mem hy
      simpa [List.getD, hi] using hI i hi
    rw [this]

theorem mid_set {α : Type} [Inhabited α] (f : α → α) (l : List α) (i : Nat) (hi : i < l.length) : ((l.take i).map f ++ l.drop i).set i (f (l.getD i default)) = (l.take (i + 1)).map f ++ l.drop (i + 1) := by
  have hd : l.drop i = l[i] :: l.drop (i + 1) := List.drop_eq_getElem_cons hi
  have hn : ((l.take i).map f).length = i := by simp; omega
  rw [hd, List.set_append]
  simp only [hn, Nat.lt_irrefl, if_false, Nat.sub_self, List.set_cons_zero]
  rw [List.take_succ_eq_append_getElem hi, List.map_append, List.append_assoc, show l.getD i default = l[i] by simp [List.getD, hi]]
  rfl
theorem mid_keep {α : Type} [Inhabited α] (f : α → α) (l : List α) (i : Nat) (hi : i < l.length) (h : f (l.getD i default) = l.getD i default) : (l.take i).map f ++ l.drop i = (l.take (i + 1)).map f ++ l.drop (i + 1) := by
  have hd : l.drop i = l[i] :: l.drop (i + 1) := List.drop_eq_getElem_cons hi
  have : f l[i] = l[i] := by simpa [List.getD, hi] using h
  rw [hd, List.take_succ_eq_append_getElem hi, List.map_append, List.append_assoc]
  simp only [List.map_cons, List.map_nil, this, List.singleton_append]
theorem mid_at {α : Type} [Inhabited α] (f : α → α) (l : List α) (i : Nat) (hi : i < l.length) : ((l.take i).map f ++ l.drop i).getD i default = l.getD i default := by
  have hn : ((l.take i).map f).length = i := by simp; omega
  rw [List.getD, List.getElem?_append_right (by omega), hn, Nat.sub_self, List.getElem?_drop]
  rfl
theorem mid_len {α : Type} (f : α → α) (l : List α) (i : Nat) (hi : i ≤ l.length) : ((l.take i).map f ++ l.drop i).length = l.length := by simp; omega
theorem cnt_succ {α : Type} [Inhabited α] (p : α → Bool) (l : List α) (i : Nat) (hi : i < l.length) : (l.take (i + 1)).countP p = (l.take i).countP p + if p (l.getD i default) = true then 1 else 0 := by
  rw [List.take_succ_eq_append_getElem hi, List.countP_append]
  simp [List.countP_cons, List.getD, hi]

def due (r t : Int) (h : THold) : Bool := decide (h.Replica = r) && decide (h.State = 1) && decide (h.Due < t)
def ex (r t : Int) (h : THold) : THold := if due r t h = true then { h with State := 3 } else h
def Exp (l : List THold) (r t : Int) : List THold × Int := if Rts l then (l.map (ex r t), (l.countP (due r t) : Int)) else (l, 0)

theorem hold_Expire_eq (l : List THold) (r t : Int) (hl : l.length ≤ 1000000000000) : hold_Expire l r t = some (Exp l r t) := by
  unfold hold_Expire Exp
  rw [app_of (by simp; omega), hold_Rights_eq l (by omega)]
  simp only [Option.bind, List.nil_append]
  by_cases h : Rts l
  · rw [if_neg (by simp [h]), if_pos h]
    rw [loopM_eq (q := (((l.countP (due r t) : Nat) : Int), l.map (ex r t))) (fun i s => s = ((i : Int), (l.take i).map (ex r t) ++ l.drop i, (((l.take i).countP (due r t) : Nat) : Int))) l.length (by omega) ?_ ?_ (by simp)]
    · rintro i s hi rfl
      refine .inl ⟨_, ?_, rfl⟩
      have hc : (l.take i).countP (due r t) ≤ l.length := Nat.le_trans List.countP_le_length (by simp; omega)
      simp only [hold_Expire_L1, six_of (show i < ((l.take i).map (ex r t) ++ l.drop i).length by rw [mid_len _ _ _ (by omega)]; exact hi), letM_eq, Option.bind, mid_at _ _ _ hi]
      rw [if_pos (by simp; omega)]
      simp only [wr_succ (show i < 1000000000000000 by omega), cnt_succ _ _ _ hi]
      by_cases hd : due r t (l.getD i default) = true
      · have he : { l.getD i default with State := 3 } = ex r t (l.getD i default) := by rw [ex, if_pos hd]
        rw [if_pos (by simpa only [due] using hd), if_pos hd, he, mid_set _ _ _ hi, wr_succ (by omega)]
      · have he : ex r t (l.getD i default) = l.getD i default := by rw [ex, if_neg hd]
        rw [if_neg (by simpa only [due] using hd), if_neg hd, mid_keep _ _ _ hi he]
        rfl
    · rintro s rfl
      simp [hold_Expire_L1]
  · rw [if_pos (by simp [h]), if_neg h]

def isK (r n : Int) (h : THold) : Bool := decide (h.Replica = r) && decide (h.Number = n)
theorem place_eq (l : List THold) (r n : Int) (hl : l.length ≤ 1000000000000) : hold_place l r n = some (match l.findIdx? (isK r n) with | some i => (i : Int) | none => -1) := by
  unfold hold_place slices_IndexFunc_Hold_place_1
  rw [loop_first l (by omega) (isK r n) (fun i => (i : Int)) () (fun i hi => ?_) (by simp [slices_IndexFunc_Hold_place_1_L1])]
  · cases l.findIdx? (isK r n) <;> rfl
  · simp only [slices_IndexFunc_Hold_place_1_L1, hold_place_1, six_of hi, letM_eq, Option.bind]
    rw [if_pos (by simp; omega)]
    simp only [wr_succ (show i < 1000000000000000 by omega)]
    by_cases h : isK r n (l.getD i default) = true
    · rw [if_pos (by simpa only [isK] using h), if_pos h]
    · rw [if_neg (by simpa only [isK] using h), if_neg h]
def EndS (l : List THold) (r n st : Int) : List THold × Int × Int :=
  if Rts l ∧ (st = 2 ∨ st = 3) then (match l.findIdx? (isK r n) with
    | none => ([], 0, 10)
    | some i => if (l.getD i default).State = 1 then (l.set i { l.getD i default with State := st }, (l.getD i default).Amount, 0) else ([], 0, 12))
  else ([], 0, 1)
theorem set_at {α : Type} [Inhabited α] (l : List α) (i : Nat) (hi : i < l.length) (x : α) : (l.set i x).getD i default = x := by simp [List.getD, hi]
theorem hold_End_eq (l : List THold) (r n st : Int) (hl : l.length ≤ 1000000000000) : hold_End l r n st = some (EndS l r n st) := by
  unfold hold_End EndS
  rw [place_eq l r n hl, hold_Rights_eq l (by omega)]
  simp only [Option.bind, letM_eq]
  by_cases h : Rts l ∧ (st = 2 ∨ st = 3)
  · rw [if_neg (by simp [h.1]; omega), if_pos h]
    cases hk : l.findIdx? (isK r n) with
    | none => simp
    | some i =>
      have hi := (List.findIdx?_eq_some_iff_getElem.1 hk).1
      simp only
      rw [if_neg (by simp), six_of hi, app_of (by simp; omega)]
      simp only [Option.bind, List.nil_append, six_of hi]
      by_cases hs : (l.getD i default).State = 1
      · rw [if_neg (by simp only [hs, decide_true]; decide), if_pos hs, six_of (by simp; exact hi)]
        simp only [set_at _ _ hi]
      · rw [if_pos (by simp only [hs, decide_false]; rfl), if_neg hs]
  · rw [if_neg h, if_pos]
    by_cases h1 : Rts l
    · simp [h1] at h ⊢; omega
    · simp [h1]
end Go.Av
namespace Go.Av
set_option linter.unusedSectionVars false
set_option linter.unusedVariables false
set_option linter.unusedSimpArgs false

def putS : List THold → THold → List THold
  | [], x => [x]
  | h :: t, x => if HLt h x then h :: putS t x else x :: h :: t
theorem putS_length (x : THold) : ∀ l : List THold, (putS l x).length = l.length + 1
  | [] => rfl
  | h :: t => by unfold putS; split <;> simp [putS_length x t]
theorem putS_perm (x : THold) : ∀ l : List THold, (putS l x).Perm (x :: l)
  | [] => .refl _
  | h :: t => by
    unfold putS
    split
    · exact ((putS_perm x t).cons h).trans (.swap x h t)
    · exact .refl _
theorem putS_mem {x y : THold} {l : List THold} : y ∈ putS l x ↔ y = x ∨ y ∈ l := by rw [(putS_perm x l).mem_iff, List.mem_cons]
/-- Another key. -/
def Off (h x : THold) : Prop := ¬ (h.Replica = x.Replica ∧ h.Number = x.Number)
theorem HLt.off {a b : THold} (h : HLt a b) : Off a b ∧ Off b a := by unfold HLt Off at *; omega
theorem lt_or {a b : THold} (h : Off a b) (k : ¬ HLt a b) : HLt b a := by unfold HLt Off at *; omega
theorem putS_sorted (x : THold) : ∀ l : List THold, l.Pairwise HLt → (∀ h ∈ l, Off h x) → (putS l x).Pairwise HLt
  | [], _, _ => by simp [putS]
  | h :: t, hl, ho => by
    unfold putS
    rw [List.pairwise_cons] at hl
    split
    · rename_i hx
      rw [List.pairwise_cons]
      refine ⟨fun y hy => ?_, putS_sorted x t hl.2 fun y hy => ho y (by simp [hy])⟩
      rcases putS_mem.1 hy with rfl | hy
      · exact hx
      · exact hl.1 y hy
    · rename_i hx
      have h1 := lt_or (ho h (by simp)) hx
      rw [List.pairwise_cons, List.pairwise_cons]
      refine ⟨fun y hy => ?_, hl⟩
      rcases List.mem_cons.1 hy with rfl | hy
      · exact h1
      · exact h1.trans (hl.1 y hy)
theorem sorted_tri {l : List THold} (h : l.Pairwise HLt) {a b : THold} (ha : a ∈ l) (hb : b ∈ l) : a = b ∨ HLt a b ∨ HLt b a := by
  obtain ⟨i, hi, rfl⟩ := List.getElem_of_mem ha
  obtain ⟨j, hj, rfl⟩ := List.getElem_of_mem hb
  rw [List.pairwise_iff_getElem] at h
  rcases Nat.lt_trichotomy i j with h1 | rfl | h1
  · exact .inr (.inl (h _ _ hi hj h1))
  · exact .inl rfl
  · exact .inr (.inr (h _ _ hj hi h1))
/-- What is sorted is told by its order. -/
theorem sort_uniq {l m : List THold} (hp : l.Perm m) (hm : m.Pairwise HLt) : sortF holdCmp l = m := by
  refine List.Perm.eq_of_pairwise (le := fun a b => ¬ HLt b a) ?_ ?_ ?_ ((sortF_perm holdCmp_swo l).trans hp)
  · intro a b ha hb h1 h2
    rcases sorted_tri hm (hp.mem_iff.1 ((sortF_perm holdCmp_swo l).mem_iff.1 ha)) hb with h | h | h
    · exact h
    · exact (h2 h).elim
    · exact (h1 h).elim
  · exact (sortF_sorted holdCmp_swo l).imp fun {a b} h => by rw [holdCmp_lt] at h; simpa [HLt] using h
  · exact hm.imp fun {a b} h k => by unfold HLt at *; omega

def rstep (r : Int) (s : Int) (h : THold) : Int := if h.Replica = r then max s (wr .i64 (h.Number + 1)) else s
def mstep (r : Int) (s : Int) (h : THold) : Int := if (decide (h.Replica = r) && decide (s < h.Number)) = true then h.Number else s
def NextN (l : List THold) (r : Int) : Int := l.foldl (rstep r) 1
theorem next_max (r : Int) : ∀ (l : List THold) (s : Int), (∀ h ∈ l, HOk h) → 0 ≤ s → s ≤ 1099511627776 → l.foldl (rstep r) (s + 1) = l.foldl (mstep r) s + 1 ∧ 0 ≤ l.foldl (mstep r) s ∧ l.foldl (mstep r) s ≤ 1099511627776 ∧ s ≤ l.foldl (mstep r) s ∧ ∀ h ∈ l, h.Replica = r → h.Number ≤ l.foldl (mstep r) s
  | [], s, _, h0, h1 => ⟨rfl, h0, h1, Int.le_refl _, fun h hm => by simp at hm⟩
  | h :: t, s, hl, h0, h1 => by
    have hh := hl h (by simp)
    have e : rstep r (s + 1) h = mstep r s h + 1 ∧ 0 ≤ mstep r s h ∧ mstep r s h ≤ 1099511627776 ∧ s ≤ mstep r s h ∧ (h.Replica = r → h.Number ≤ mstep r s h) := by
      unfold rstep mstep
      unfold HOk at hh
      rw [wr_id (by omega)]
      by_cases h2 : h.Replica = r
      · by_cases h3 : s < h.Number
        · simp [h2, h3]; omega
        · simp [h2, h3]; omega
      · simp [h2]; omega
    simp only [List.foldl_cons]
    rw [e.1]
    obtain ⟨a, b, c, d, f⟩ := next_max r t (mstep r s h) (fun x hx => hl x (by simp [hx])) e.2.1 e.2.2.1
    refine ⟨a, b, c, by omega, fun x hx hr => ?_⟩
    rcases List.mem_cons.1 hx with rfl | hx
    · have := e.2.2.2.2 hr; omega
    · exact f x hx hr

def newH (l : List THold) (r a d : Int) : THold := ⟨r, NextN l r, a, d, 1⟩
def ResS (l : List THold) (r a d : Int) : List THold × Int × Int :=
  if Rts l ∧ HOk (newH l r a d) then (if l.length = 16 then ([], 0, 7) else (putS l (newH l r a d), NextN l r, 0)) else ([], 0, 1)
theorem newH_off {l : List THold} {r a d : Int} (hl : ∀ h ∈ l, HOk h) : ∀ h ∈ l, Off h (newH l r a d) := by
  intro h hm ⟨h1, h2⟩
  have := next_max r l 0 hl (by omega) (by omega)
  have h3 := this.2.2.2.2 h hm h1
  have h4 := this.1
  simp only [newH, NextN] at h2
  have h5 : l.foldl (rstep r) (0 + 1) = l.foldl (rstep r) 1 := rfl
  omega
theorem ResS_ok {l : List THold} {r a d : Int} (h : Rts l) (h2 : HOk (newH l r a d)) (h3 : l.length ≠ 16) : ResS l r a d = (putS l (newH l r a d), NextN l r, 0) := by unfold ResS; rw [if_pos ⟨h, h2⟩, if_neg h3]
theorem ResS_full {l : List THold} {r a d : Int} (h : Rts l) (h2 : HOk (newH l r a d)) (h3 : l.length = 16) : ResS l r a d = ([], 0, 7) := by unfold ResS; rw [if_pos ⟨h, h2⟩, if_pos h3]
theorem ResS_no {l : List THold} {r a d : Int} (h : ¬ (Rts l ∧ HOk (newH l r a d))) : ResS l r a d = ([], 0, 1) := by unfold ResS; rw [if_neg h]
theorem hold_Reserve_eq (l : List THold) (r a d : Int) (hl : l.length ≤ 1000000000000) : hold_Reserve l r a d = some (ResS l r a d) := by
  unfold hold_Reserve
  rw [(loop_fold l.length (by omega) (fun s i => rstep r s (l.getD i default)) id (fun _ _ => True) trivial (fun i s hi _ => ⟨?_, trivial⟩) (fun s _ => by simp [hold_Reserve_L1])).1]
  · simp only [Option.bind, id]
    rw [foldl_range_list l default (rstep r) 1]
    simp only [letM_eq, hold_Rights_eq l (by omega), hold_Right_eq, gd]
    rw [show (⟨r, l.foldl (rstep r) 1, a, d, 1⟩ : THold) = newH l r a d from rfl]
    by_cases h : Rts l
    · by_cases h2 : HOk (newH l r a d)
      · simp only [h, h2, decide_true, Bool.not_true, if_true, Bool.or_self]
        rw [if_neg Bool.false_ne_true]
        by_cases h3 : l.length = 16
        · rw [if_pos (by simp [h3]), ResS_full h h2 h3]
        · rw [if_neg (by simp; omega), ResS_ok h h2 h3, app_of (by simp; omega)]
          simp only [List.nil_append]
          rw [app_of (by simp; omega)]
          simp only [sortM]
          rw [if_pos (by simp; omega), sort_uniq (m := putS l (newH l r a d)) (List.perm_append_comm.trans (putS_perm _ l).symm) (putS_sorted _ l h.2.1 (newH_off h.1))]
          rfl
      · rw [ResS_no (fun x => h2 x.2)]; simp [h, h2]
    · rw [ResS_no (fun x => h x.1)]; simp [h]
  · simp only [hold_Reserve_L1, six_of hi, letM_eq, Option.bind, rstep]
    rw [if_pos (by simp; omega)]
    simp only [wr_succ (show i < 1000000000000000 by omega)]
    by_cases h : (l.getD i default).Replica = r
    · rw [if_pos (by simpa only [decide_eq_true_eq] using h), if_pos h]
    · rw [if_neg (by simpa only [decide_eq_true_eq] using h), if_neg h]
end Go.Av
namespace Go.Av
set_option linter.unusedSectionVars false
set_option linter.unusedVariables false
set_option linter.unusedSimpArgs false

def val (r : Int) (h : THold) : Int := if h.Replica = r ∧ h.State = 1 then h.Amount else 0
def tot (r : Int) (l : List THold) : Int := (l.map (val r)).sum
theorem tot_put (r : Int) (x : THold) : ∀ l : List THold, tot r (putS l x) = val r x + tot r l
  | [] => by simp [tot, putS]
  | h :: t => by
    have ih := tot_put r x t
    unfold putS
    split
    · simp only [tot, List.map_cons, List.sum_cons] at *; omega
    · simp only [tot, List.map_cons, List.sum_cons] at *
theorem tot_range {r : Int} : ∀ {l : List THold}, (∀ h ∈ l, 0 ≤ h.Amount ∧ h.Amount ≤ 1073741824) → 0 ≤ tot r l ∧ tot r l ≤ 1073741824 * (l.length : Int)
  | [], _ => by simp [tot]
  | h :: t, hl => by
    have ih := tot_range (r := r) (l := t) fun x hx => hl x (by simp [hx])
    have hh := hl h (by simp)
    have : 0 ≤ val r h ∧ val r h ≤ 1073741824 := by unfold val; split <;> omega
    simp only [tot, List.map_cons, List.sum_cons, List.length_cons] at *
    omega
theorem sum_tot' {r : Int} : ∀ (l : List THold) (s : Int), (∀ h ∈ l, 0 ≤ h.Amount ∧ h.Amount ≤ 1073741824) → 0 ≤ s → s + 1073741824 * (l.length : Int) ≤ 1099511627776 → l.foldl (sumStep r) s = s + tot r l
  | [], s, _, _, _ => by simp [tot]
  | h :: t, s, hl, h0, h1 => by
    have hh := hl h (by simp)
    simp only [List.length_cons] at h1
    have e : sumStep r s h = s + val r h := by
      unfold sumStep val
      rw [wr_id (by omega)]
      by_cases hc : h.Replica = r ∧ h.State = 1
      · rw [if_pos (by simp [hc]), if_pos hc]; omega
      · rw [if_neg (by simpa using hc), if_neg hc]; omega
    have : 0 ≤ val r h ∧ val r h ≤ 1073741824 := by unfold val; split <;> omega
    rw [List.foldl_cons, e, sum_tot' t (s + val r h) (fun x hx => hl x (by simp [hx])) (by omega) (by omega)]
    simp only [tot, List.map_cons, List.sum_cons]
    omega
theorem sum_tot {r : Int} {l : List THold} (hl : ∀ h ∈ l, 0 ≤ h.Amount ∧ h.Amount ≤ 1073741824) (hn : l.length ≤ 40) : SumS l r = tot r l := by
  unfold SumS
  rw [sum_tot' l 0 hl (by omega) (by omega)]
  omega

theorem isK_off {h x : THold} (ho : Off h x) : isK x.Replica x.Number h = false := by
  unfold Off at ho
  cases hk : isK x.Replica x.Number h with
  | false => rfl
  | true => simp only [isK, Bool.and_eq_true, decide_eq_true_eq] at hk; exact (ho hk).elim
theorem isK_self (x : THold) : isK x.Replica x.Number x = true := by simp [isK]
theorem find_put (x : THold) : ∀ (l : List THold), (∀ h ∈ l, Off h x) → ∃ i, (putS l x).findIdx? (isK x.Replica x.Number) = some i ∧ (putS l x).getD i default = x ∧ ∀ st, (putS l x).set i { x with State := st } = putS l { x with State := st }
  | [], _ => ⟨0, by simp [putS, List.findIdx?_cons, isK_self], rfl, fun _ => rfl⟩
  | h :: t, ho => by
    unfold putS
    by_cases hx : HLt h x
    · obtain ⟨i, h1, h2, h3⟩ := find_put x t fun y hy => ho y (by simp [hy])
      refine ⟨i + 1, ?_, ?_, fun st => ?_⟩
      · rw [if_pos hx, List.findIdx?_cons, isK_off (ho h (by simp)), h1]; rfl
      · rw [if_pos hx]; exact h2
      · rw [if_pos hx, if_pos (show HLt h { x with State := st } from hx), List.set_cons_succ, h3]
    · refine ⟨0, ?_, ?_, fun st => ?_⟩
      · rw [if_neg hx, List.findIdx?_cons, isK_self]; rfl
      · rw [if_neg hx]; rfl
      · rw [if_neg hx, if_neg (show ¬ HLt h { x with State := st } from hx)]; rfl
theorem Rts_put {l : List THold} {x : THold} (h : Rts l) (hx : HOk x) (ho : ∀ h ∈ l, Off h x) (hn : l.length ≠ 16) : Rts (putS l x) := by
  refine ⟨fun y hy => ?_, putS_sorted x l h.2.1 ho, ?_⟩
  · rcases putS_mem.1 hy with rfl | hy
    · exact hx
    · exact h.1 y hy
  · have := h.2.2
    rw [putS_length]; omega

end Go.Av
namespace Go.Av
set_option linter.unusedSectionVars false
set_option linter.unusedVariables false
set_option linter.unusedSimpArgs false

def foldO {α σ : Type} (f : σ → α → Option σ) : σ → List α → Option σ
  | s, [] => some s
  | s, x :: t => match f s x with
    | none => none
    | some s' => foldO f s' t
theorem loop_foldO' {α σ ξ ρ : Type} [Inhabited α] (l : List α) {body : Int × σ → Option ((Int × σ) ⊕ (ξ ⊕ ρ))} (f : σ → α → Option σ) (out : σ → ξ) (e : ρ) (J : Nat → σ → Prop)
    (hb : ∀ i s, i < l.length → J i s → body ((i : Int), s) = some (match f s (l.getD i default) with | some s' => .inl ((((i + 1 : Nat)) : Int), s') | none => .inr (.inr e)) ∧ ∀ s', f s (l.getD i default) = some s' → J (i + 1) s')
    (hf : ∀ s, J l.length s → body ((l.length : Int), s) = some (.inr (.inl (out s)))) :
    ∀ (k i : Nat) (s : σ), i + k = l.length → J i s → ∀ n, k < n → loopM body n ((i : Int), s) = some (match foldO f s (l.drop i) with | some s => .inl (out s) | none => .inr e) ∧ ∀ s', foldO f s (l.drop i) = some s' → J l.length s'
  | k, i, s, hk, hI, 0, hn => by omega
  | 0, i, s, hk, hI, n + 1, hn => by
    obtain rfl : i = l.length := by omega
    rw [List.drop_length]
    refine ⟨by simp only [loopM, hf s hI, foldO], fun s' h => ?_⟩
    simp only [foldO, Option.some.injEq] at h
    exact h ▸ hI
  | k + 1, i, s, hk, hI, n + 1, hn => by
    have hi : i < l.length := by omega
    obtain ⟨h1, h2⟩ := hb i s hi hI
    have hd : l.drop i = l.getD i default :: l.drop (i + 1) := by rw [List.drop_eq_getElem_cons hi]; simp [List.getD, hi]
    rw [hd]
    simp only [loopM, h1, foldO]
    cases hc : f s (l.getD i default) with
    | none => exact ⟨rfl, fun s' h => by cases h⟩
    | some s' => exact loop_foldO' l f out e J hb hf k (i + 1) s' (by omega) (h2 s' hc) n (by omega)
theorem loop_foldO {α σ ξ ρ : Type} [Inhabited α] (l : List α) (hl : l.length ≤ 1000000000000000) {body : Int × σ → Option ((Int × σ) ⊕ (ξ ⊕ ρ))} (f : σ → α → Option σ) (out : σ → ξ) (e : ρ) (J : Nat → σ → Prop) {s0 : σ} (h0 : J 0 s0)
    (hb : ∀ i s, i < l.length → J i s → body ((i : Int), s) = some (match f s (l.getD i default) with | some s' => .inl ((((i + 1 : Nat)) : Int), s') | none => .inr (.inr e)) ∧ ∀ s', f s (l.getD i default) = some s' → J (i + 1) s')
    (hf : ∀ s, J l.length s → body ((l.length : Int), s) = some (.inr (.inl (out s)))) :
    loopM body fuel (0, s0) = some (match foldO f s0 l with | some s => .inl (out s) | none => .inr e) ∧ ∀ s', foldO f s0 l = some s' → J l.length s' :=
  loop_foldO' l f out e J hb hf l.length 0 s0 (by omega) h0 fuel (by have := fuel_big; omega)

def bump (x h : THold) : THold := { x with State := max x.State h.State }
def upd (l : List THold) (h : THold) : List THold := l.map fun x => if isK h.Replica h.Number x = true then bump x h else x
def fits (x h : THold) : Prop := x.Amount = h.Amount ∧ x.Due = h.Due
instance (x h : THold) : Decidable (fits x h) := by unfold fits; infer_instance
def lookH (l : List THold) (r n : Int) : Option THold := l.find? (isK r n)
def jstep (ins : List THold → THold → List THold) (m : List THold) (h : THold) : Option (List THold) :=
  match lookH m h.Replica h.Number with
  | none => some (ins m h)
  | some x => if fits x h then some (upd m h) else none

theorem isK_iff {r n : Int} {x : THold} : isK r n x = true ↔ x.Replica = r ∧ x.Number = n := by simp [isK]
theorem Off.symm {a b : THold} (h : Off a b) : Off b a := by unfold Off at *; omega
theorem off_tri {l : List THold} (h : l.Pairwise Off) {i j : Nat} (hi : i < l.length) (hj : j < l.length) (hk : ¬ Off l[i] l[j]) : i = j := by
  rw [List.pairwise_iff_getElem] at h
  rcases Nat.lt_trichotomy i j with h1 | h1 | h1
  · exact (hk (h _ _ hi hj h1)).elim
  · exact h1
  · exact (hk (h _ _ hj hi h1).symm).elim
theorem sorted_off {l : List THold} (h : l.Pairwise HLt) : l.Pairwise Off := h.imp fun {a b} k => k.off.1
theorem lookH_iff {l : List THold} (h : l.Pairwise Off) {r n : Int} {x : THold} : lookH l r n = some x ↔ x ∈ l ∧ x.Replica = r ∧ x.Number = n := by
  constructor
  · intro hx
    exact ⟨List.mem_of_find?_eq_some hx, isK_iff.1 (List.find?_some hx)⟩
  · rintro ⟨hm, h1, h2⟩
    cases hc : lookH l r n with
    | none => rw [lookH, List.find?_eq_none] at hc; exact (hc x hm (isK_iff.2 ⟨h1, h2⟩)).elim
    | some y =>
      have hy := List.mem_of_find?_eq_some hc
      have hk := isK_iff.1 (List.find?_some hc)
      obtain ⟨i, hi, rfl⟩ := List.getElem_of_mem hm
      obtain ⟨j, hj, rfl⟩ := List.getElem_of_mem hy
      have := off_tri h hi hj (fun k => k ⟨by omega, by omega⟩)
      subst this; rfl
theorem lookH_none {l : List THold} {r n : Int} : lookH l r n = none ↔ ∀ x ∈ l, ¬ (x.Replica = r ∧ x.Number = n) := by
  rw [lookH, List.find?_eq_none]
  exact ⟨fun h x hx hk => h x hx (isK_iff.2 hk), fun h x hx hk => h x hx (isK_iff.1 hk)⟩
theorem lookH_perm {l m : List THold} (hp : l.Perm m) (ho : m.Pairwise Off) (r n : Int) : lookH l r n = lookH m r n := by
  have hl : l.Pairwise Off := hp.symm.pairwise ho fun h => h.symm
  cases hc : lookH m r n with
  | none => rw [lookH_none] at hc ⊢; exact fun x hx => hc x (hp.mem_iff.1 hx)
  | some x => rw [lookH_iff ho] at hc; rw [lookH_iff hl]; exact ⟨hp.mem_iff.2 hc.1, hc.2⟩
theorem upd_off {l : List THold} (h : THold) (ho : l.Pairwise Off) : (upd l h).Pairwise Off := by
  unfold upd
  rw [List.pairwise_map]
  refine ho.imp fun {a b} k => ?_
  unfold Off at *
  split <;> split <;> exact k
theorem upd_sorted {l : List THold} (h : THold) (ho : l.Pairwise HLt) : (upd l h).Pairwise HLt := by
  unfold upd
  rw [List.pairwise_map]
  refine ho.imp fun {a b} k => ?_
  unfold HLt at *
  split <;> split <;> exact k
theorem upd_set {l : List THold} (ho : l.Pairwise Off) {h : THold} {j : Nat} (hj : j < l.length) (hk : isK h.Replica h.Number (l.getD j default) = true) : l.set j (bump (l.getD j default) h) = upd l h ∧ lookH l h.Replica h.Number = some (l.getD j default) := by
  have e : l.getD j default = l[j] := by simp [List.getD, hj]
  rw [e] at hk ⊢
  refine ⟨?_, (lookH_iff ho).2 ⟨List.getElem_mem hj, isK_iff.1 hk⟩⟩
  apply List.ext_getElem (by simp [upd])
  intro i h1 h2
  simp only [List.getElem_set, upd, List.getElem_map]
  by_cases hij : j = i
  · subst hij; rw [if_pos rfl, if_pos hk]
  · rw [if_neg hij, if_neg]
    intro hk2
    refine hij (off_tri ho hj (by simpa using h1) fun k => k ?_)
    have := isK_iff.1 hk; have := isK_iff.1 hk2; omega

theorem jstep_perm {l m : List THold} (hp : l.Perm m) (ho : m.Pairwise Off) (h : THold) : (jstep (fun l h => l ++ [h]) l h = none ∧ jstep putS m h = none) ∨ ∃ l' m', jstep (fun l h => l ++ [h]) l h = some l' ∧ jstep putS m h = some m' ∧ l'.Perm m' := by
  unfold jstep
  rw [lookH_perm hp ho]
  cases lookH m h.Replica h.Number with
  | none => exact .inr ⟨_, _, rfl, rfl, (List.perm_append_comm.trans (hp.cons h)).trans (putS_perm h m).symm⟩
  | some x =>
    simp only
    by_cases hf : fits x h
    · rw [if_pos hf, if_pos hf]; exact .inr ⟨_, _, rfl, rfl, hp.map _⟩
    · rw [if_neg hf, if_neg hf]; exact .inl ⟨rfl, rfl⟩
theorem jstep_sorted {m m' : List THold} {h : THold} (hm : m.Pairwise HLt) (hj : jstep putS m h = some m') : m'.Pairwise HLt := by
  unfold jstep at hj
  cases hc : lookH m h.Replica h.Number with
  | none =>
    rw [hc] at hj; simp only [Option.some.injEq] at hj; subst hj
    exact putS_sorted h m hm fun x hx hk => lookH_none.1 hc x hx hk
  | some x =>
    rw [hc] at hj; simp only at hj
    split at hj
    · simp only [Option.some.injEq] at hj; subst hj; exact upd_sorted h hm
    · cases hj
theorem fold_perm : ∀ (b : List THold) {l m : List THold}, l.Perm m → m.Pairwise HLt → (foldO (jstep fun l h => l ++ [h]) l b = none ∧ foldO (jstep putS) m b = none) ∨ ∃ l' m', foldO (jstep fun l h => l ++ [h]) l b = some l' ∧ foldO (jstep putS) m b = some m' ∧ l'.Perm m' ∧ m'.Pairwise HLt
  | [], l, m, hp, hm => .inr ⟨l, m, rfl, rfl, hp, hm⟩
  | h :: b, l, m, hp, hm => by
    rcases jstep_perm hp (sorted_off hm) h with ⟨h1, h2⟩ | ⟨l', m', h1, h2, h3⟩
    · exact .inl ⟨by simp only [foldO, h1], by simp only [foldO, h2]⟩
    · simp only [foldO, h1, h2]
      exact fold_perm b h3 (jstep_sorted hm h2)

def Jn (a b : List THold) : Option (List THold) := foldO (jstep putS) a b
def JS (a b : List THold) : List THold × Int :=
  if Rts a ∧ Rts b then (match Jn a b with
    | none => ([], 1)
    | some m => if 16 < m.length then ([], 7) else (m, 0))
  else ([], 1)

end Go.Av
namespace Go.Av
set_option linter.unusedSectionVars false
set_option linter.unusedVariables false
set_option linter.unusedSimpArgs false

theorem findK_putK {K α : Type} [DecidableEq K] (k q : K) (a : α) : ∀ l : List (K × α), findK q (putK k a l) = if k = q then some a else findK q l
  | [] => by simp [putK, findK]
  | p :: r => by
    unfold putK
    by_cases h : p.1 = k
    · rw [if_pos h]
      unfold findK
      by_cases hq : k = q
      · rw [if_pos hq]; simp [hq]
      · rw [if_neg hq, if_neg hq, if_neg (by rw [h]; exact hq)]
    · rw [if_neg h]
      unfold findK
      rw [findK_putK k q a r]
      by_cases hq : k = q
      · rw [if_neg (by rw [← hq]; exact h), if_pos hq]; simp [hq]
      · rw [if_neg hq, if_neg hq]

def keyH (h : THold) : Vector Int 2 := #v[h.Replica, h.Number]
theorem keyH_eq {a b : THold} : keyH a = keyH b ↔ a.Replica = b.Replica ∧ a.Number = b.Number := by
  constructor
  · intro h
    have h0 : (keyH a).get 0 = (keyH b).get 0 := by rw [h]
    have h1 : (keyH a).get 1 = (keyH b).get 1 := by rw [h]
    exact ⟨h0, h1⟩
  · rintro ⟨h1, h2⟩
    unfold keyH; rw [h1, h2]
theorem keyH_ok {h : THold} (hh : HOk h) : okInts (keyH h) = true := by
  unfold HOk at hh
  have e1 : inI64 h.Replica = true := by simp only [inI64, decide_eq_true_eq]; omega
  have e2 : inI64 h.Number = true := by simp only [inI64, decide_eq_true_eq]; omega
  simp [okInts, keyH, e1, e2]

def MapOf (a : List THold) (i : Nat) (m : AMap (Vector Int 2) Int okInts) : Prop :=
  (∀ j, j < i → findK (keyH (a.getD j default)) m.es = some (j : Int)) ∧ ∀ k v, findK k m.es = some v → ∃ j : Nat, j < i ∧ v = (j : Int) ∧ keyH (a.getD j default) = k
theorem sorted_at {a : List THold} (h : a.Pairwise HLt) {i j : Nat} (hi : i < a.length) (hj : j < a.length) (hk : (a.getD i default).Replica = (a.getD j default).Replica ∧ (a.getD i default).Number = (a.getD j default).Number) : i = j := by
  rw [show a.getD i default = a[i] by simp [List.getD, hi], show a.getD j default = a[j] by simp [List.getD, hj]] at hk
  exact off_tri (sorted_off h) hi hj fun k => k hk
theorem map_loop (a : List THold) (ha : Rts a) : ∃ m, loopM (hold_Join_L1 a) fuel (0, AMap.empty) = some m ∧ MapOf a a.length m := by
  have hlen := ha.2.2
  refine loopM_ind (fun i s => s.1 = (i : Int) ∧ MapOf a i s.2) a.length (by omega) _ ?_ ?_ ⟨rfl, fun j h => by omega, fun k v h => by simp [AMap.empty, findK] at h⟩
  · rintro i ⟨s1, m⟩ hi ⟨h1, hI, hI2⟩
    simp only at h1 hI hI2
    subst h1
    refine .inl ?_
    have hok : HOk (a.getD i default) := ha.1 _ (by simp [List.getD, hi])
    simp only [hold_Join_L1, six_of hi, letM_eq, Option.bind]
    rw [if_pos (by simp; omega)]
    have hk := keyH_ok hok
    rw [show (#v[(a.getD i default).Replica, (a.getD i default).Number] : Vector Int 2) = keyH (a.getD i default) from rfl]
    unfold AMap.put
    rw [dif_pos hk]
    refine ⟨_, rfl, wr_succ (by omega), fun j hj => ?_, fun k v hv => ?_⟩
    · simp only
      rw [findK_putK]
      rcases Nat.lt_succ_iff_lt_or_eq.1 hj with h | rfl
      · rw [if_neg (fun h3 => by have := sorted_at ha.2.1 hi (by omega) (keyH_eq.1 h3); omega)]
        exact hI j h
      · rw [if_pos rfl]
    · simp only at hv
      rw [findK_putK] at hv
      split at hv
      · rename_i he
        simp only [Option.some.injEq] at hv
        exact ⟨i, by omega, hv.symm, he⟩
      · obtain ⟨j, h1, h2, h3⟩ := hI2 k v hv
        exact ⟨j, by omega, h2, h3⟩
  · rintro ⟨s1, m⟩ ⟨h1, hI⟩
    simp only at h1 hI
    subst h1
    exact ⟨m, by simp [hold_Join_L1], hI⟩

theorem upd_key (s : List THold) (h : THold) (j : Nat) : ((upd s h).getD j default).Replica = (s.getD j default).Replica ∧ ((upd s h).getD j default).Number = (s.getD j default).Number := by
  unfold upd
  rw [List.getD, List.getD, List.getElem?_map]
  cases s[j]? with
  | none => exact ⟨rfl, rfl⟩
  | some x => simp only [Option.map_some, Option.getD_some]; split <;> exact ⟨rfl, rfl⟩
def InvJ (a b : List THold) (i : Nat) (s : List THold) : Prop :=
  s.Pairwise Off ∧ a.length ≤ s.length ∧ s.length ≤ a.length + i ∧ (∀ j, j < a.length → (s.getD j default).Replica = (a.getD j default).Replica ∧ (s.getD j default).Number = (a.getD j default).Number) ∧
    ∀ j, a.length ≤ j → j < s.length → ∃ q, q < i ∧ (s.getD j default).Replica = (b.getD q default).Replica ∧ (s.getD j default).Number = (b.getD q default).Number

theorem InvJ.step {a b s s' : List THold} {i : Nat} (hJ : InvJ a b i s) (hi : i < b.length) (hs : jstep (fun l h => l ++ [h]) s (b.getD i default) = some s') : InvJ a b (i + 1) s' := by
  obtain ⟨h1, h2, h3, h4, h5⟩ := hJ
  unfold jstep at hs
  cases hl : lookH s (b.getD i default).Replica (b.getD i default).Number with
  | none =>
    rw [hl] at hs; simp only [Option.some.injEq] at hs; subst hs
    have hn := lookH_none.1 hl
    refine ⟨?_, by simp; omega, by simp; omega, fun j hj => ?_, fun j hj hj2 => ?_⟩
    · rw [List.pairwise_append]
      refine ⟨h1, by simp, fun x hx y hy => ?_⟩
      rw [List.mem_singleton.1 hy]
      exact fun k => hn x hx k
    · rw [show (s ++ [b.getD i default]).getD j default = s.getD j default by rw [List.getD, List.getElem?_append_left (by omega)]; rfl]
      exact h4 j hj
    · by_cases hj3 : j < s.length
      · rw [show (s ++ [b.getD i default]).getD j default = s.getD j default by rw [List.getD, List.getElem?_append_left hj3]; rfl]
        obtain ⟨q, h6, h7⟩ := h5 j hj hj3
        exact ⟨q, by omega, h7⟩
      · simp only [List.length_append, List.length_singleton] at hj2
        obtain rfl : j = s.length := by omega
        rw [show (s ++ [b.getD i default]).getD s.length default = b.getD i default by rw [List.getD, List.getElem?_append_right (Nat.le_refl _), Nat.sub_self]; rfl]
        exact ⟨i, by omega, rfl, rfl⟩
  | some x =>
    rw [hl] at hs; simp only at hs
    split at hs
    · simp only [Option.some.injEq] at hs; subst hs
      have hle : (upd s (b.getD i default)).length = s.length := by simp only [upd, List.length_map]
      refine ⟨upd_off _ h1, by omega, by omega, fun j hj => ?_, fun j hj hj2 => ?_⟩
      · rw [(upd_key s _ j).1, (upd_key s _ j).2]; exact h4 j hj
      · obtain ⟨q, h6, h7⟩ := h5 j hj (by omega)
        exact ⟨q, by omega, by rw [(upd_key s _ j).1, (upd_key s _ j).2]; exact h7⟩
    · cases hs

theorem hold_Join_eq (a b : List THold) (ha : a.length ≤ 1000000) (hb : b.length ≤ 1000000) : hold_Join a b = some (JS a b) := by
  unfold hold_Join JS
  rw [hold_Rights_eq a (by omega)]
  simp only [Option.bind]
  by_cases h1 : Rts a
  · rw [gd_t (by simp [h1]), hold_Rights_eq b (by omega)]
    simp only []
    by_cases h2 : Rts b
    · rw [if_neg (by simp [h1, h2]), if_pos ⟨h1, h2⟩, app_of (by simp; omega)]
      simp only [List.nil_append]
      obtain ⟨m, hm, hM1, hM2⟩ := map_loop a h1
      rw [hm]
      simp only []
      have hbl := h2.2.2
      have hinv0 : InvJ a b 0 a := ⟨sorted_off h1.2.1, by omega, by omega, fun j _ => ⟨rfl, rfl⟩, fun j hj hj2 => by omega⟩
      have key := loop_foldO (body := hold_Join_L2 b m) b (by omega) (jstep fun l h => l ++ [h]) id (([] : List THold), (1 : Int)) (InvJ a b) hinv0 (fun i s hi hJ => ⟨?_, fun s' hs => hJ.step hi hs⟩) (fun s hs => by simp [hold_Join_L2])
      · rw [key.1]
        unfold Jn
        rcases fold_perm b (List.Perm.refl a) h1.2.1 with ⟨e1, e2⟩ | ⟨l', m', e1, e2, e3, e4⟩
        · rw [e1, e2]; rfl
        · rw [e1, e2]
          have hln : l'.length = m'.length := e3.length_eq
          have hl3 := (key.2 l' e1).2.2.1
          simp only [onS_l, id]
          by_cases h16 : 16 < m'.length
          · rw [if_pos (by simp; omega), if_pos h16]
          · rw [if_neg (by simp; omega), if_neg h16]
            simp only [sortM]
            rw [if_pos (by omega), sort_uniq e3 e4]
      · obtain ⟨g1, g2, g3, g4, g5⟩ := hJ
        have hok : HOk (b.getD i default) := h2.1 _ (by simp [List.getD, hi])
        have hk := keyH_ok hok
        simp only [hold_Join_L2, six_of hi, letM_eq, Option.bind]
        rw [if_pos (by simp; omega)]
        rw [show (#v[(b.getD i default).Replica, (b.getD i default).Number] : Vector Int 2) = keyH (b.getD i default) from rfl]
        simp only [AMap.get]
        rw [if_pos hk]
        simp only [wr_succ (show i < 1000000000000000 by omega)]
        cases hf : findK (keyH (b.getD i default)) m.es with
        | none =>
          have hl : lookH s (b.getD i default).Replica (b.getD i default).Number = none := by
            rw [lookH_none]
            intro x hx hxk
            obtain ⟨j, hj, rfl⟩ := List.getElem_of_mem hx
            have e : s.getD j default = s[j] := by simp [List.getD, hj]
            rw [← e] at hxk
            by_cases hja : j < a.length
            · have h6 := g4 j hja
              have h7 := hM1 j hja
              rw [show keyH (a.getD j default) = keyH (b.getD i default) from keyH_eq.2 ⟨by omega, by omega⟩, hf] at h7
              cases h7
            · obtain ⟨q, h6, h7⟩ := g5 j (by omega) hj
              have := sorted_at h2.2.1 (i := q) (j := i) (by omega) hi ⟨by omega, by omega⟩
              omega
          rw [if_pos (by rfl), app_of (by simp; omega)]
          simp only [jstep, hl]
        | some v =>
          obtain ⟨j, hj, rfl, hjk⟩ := hM2 _ v hf
          have hjk := keyH_eq.1 hjk
          have h6 := g4 j hj
          have hjs : j < s.length := by omega
          obtain ⟨u1, u2⟩ := upd_set g1 hjs (isK_iff.2 ⟨by omega, by omega⟩ : isK (b.getD i default).Replica (b.getD i default).Number (s.getD j default) = true)
          rw [if_neg (by simp)]
          simp only [Option.getD_some, six_of hjs, jstep, u2]
          by_cases hA : (s.getD j default).Amount = (b.getD i default).Amount
          · rw [gd_t (by rw [decide_eq_true hA]; rfl)]
            simp only []
            by_cases hD : (s.getD j default).Due = (b.getD i default).Due
            · rw [if_neg (by rw [decide_eq_true hA, decide_eq_true hD]; decide), if_pos ⟨hA, hD⟩, ← u1]
              rfl
            · rw [if_pos (by rw [decide_eq_false hD]; simp), if_neg (fun x => hD x.2)]
          · rw [gd_f (by rw [decide_eq_false hA]; decide)]
            simp only []
            rw [if_pos (by rw [decide_eq_false hA]; rfl), if_neg (fun x => hA x.1)]
    · rw [if_pos (by simp [h2]), if_neg (fun x => h2 x.2)]
  · rw [gd_f (by simp [h1]), if_neg (fun x => h1 x.1)]
    simp [h1]

end Go.Av
namespace Go.Av
set_option linter.unusedSectionVars false
set_option linter.unusedVariables false
set_option linter.unusedSimpArgs false

def jo : Option THold → Option THold → Option THold
  | none, y => y
  | some x, none => some x
  | some x, some y => some (bump x y)
def cf : Option THold → Option THold → Prop
  | some x, some y => ¬ fits x y
  | _, _ => False
theorem fits.symm {x y : THold} (h : fits x y) : fits y x := ⟨h.1.symm, h.2.symm⟩

theorem look_put {m : List THold} {h : THold} (ho : ∀ x ∈ m, Off x h) (hm : m.Pairwise HLt) (r n : Int) : lookH (putS m h) r n = if isK r n h = true then some h else lookH m r n := by
  have hs := sorted_off (putS_sorted h m hm ho)
  by_cases hk : isK r n h = true
  · rw [if_pos hk, lookH_iff hs]
    exact ⟨putS_mem.2 (.inl rfl), isK_iff.1 hk⟩
  · rw [if_neg hk]
    cases hc : lookH m r n with
    | none =>
      rw [lookH_none] at hc ⊢
      intro x hx
      rcases putS_mem.1 hx with rfl | hx
      · exact fun k => hk (isK_iff.2 k)
      · exact hc x hx
    | some x =>
      rw [lookH_iff (sorted_off hm)] at hc
      rw [lookH_iff hs]
      exact ⟨putS_mem.2 (.inr hc.1), hc.2⟩
theorem look_upd {m : List THold} {h : THold} (hm : m.Pairwise HLt) (r n : Int) : lookH (upd m h) r n = (lookH m r n).map fun x => if isK r n h = true then bump x h else x := by
  have hs := sorted_off (upd_sorted h hm)
  cases hc : lookH m r n with
  | none =>
    rw [lookH_none] at hc
    rw [Option.map_none, lookH_none]
    intro x hx
    obtain ⟨y, hy, rfl⟩ := List.mem_map.1 hx
    have := hc y hy
    split <;> exact this
  | some x =>
    rw [lookH_iff (sorted_off hm)] at hc
    rw [Option.map_some, lookH_iff hs]
    have e : isK h.Replica h.Number x = isK r n h := by
      apply Bool.eq_iff_iff.2
      rw [isK_iff, isK_iff]; omega
    refine ⟨List.mem_map.2 ⟨x, hc.1, by rw [e]⟩, ?_⟩
    split <;> exact hc.2

/-- A step: the hold that comes is joined at its key. -/
theorem step_look {m : List THold} {h : THold} (hm : m.Pairwise HLt) : (jstep putS m h = none ∧ cf (lookH m h.Replica h.Number) (some h)) ∨ (¬ cf (lookH m h.Replica h.Number) (some h) ∧ ∃ m', jstep putS m h = some m' ∧ m'.Pairwise HLt ∧ ∀ r n, lookH m' r n = jo (lookH m r n) (if isK r n h = true then some h else none)) := by
  unfold jstep
  cases hc : lookH m h.Replica h.Number with
  | none =>
    have ho : ∀ x ∈ m, Off x h := fun x hx hk => lookH_none.1 hc x hx hk
    refine .inr ⟨fun k => k, _, rfl, putS_sorted h m hm ho, fun r n => ?_⟩
    rw [look_put ho hm]
    by_cases hk : isK r n h = true
    · rw [if_pos hk, if_pos hk]
      obtain ⟨k1, k2⟩ := isK_iff.1 hk
      rw [← k1, ← k2, hc]; rfl
    · rw [if_neg hk, if_neg hk]
      cases lookH m r n <;> rfl
  | some x =>
    simp only
    by_cases hf : fits x h
    · rw [if_pos hf]
      refine .inr ⟨fun k => k hf, _, rfl, upd_sorted h hm, fun r n => ?_⟩
      rw [look_upd hm]
      by_cases hk : isK r n h = true
      · obtain ⟨k1, k2⟩ := isK_iff.1 hk
        simp only [if_pos hk]
        rw [← k1, ← k2, hc]; rfl
      · simp only [if_neg hk]
        cases lookH m r n <;> rfl
    · rw [if_neg hf]; exact .inl ⟨rfl, hf⟩

theorem lookH_cons {h : THold} {t : List THold} (r n : Int) : lookH (h :: t) r n = if isK r n h = true then some h else lookH t r n := by
  unfold lookH
  rw [List.find?_cons]
  by_cases hk : isK r n h = true
  · rw [if_pos hk, hk]
  · rw [if_neg hk, Bool.eq_false_iff.2 hk]

theorem fold_look : ∀ (b m : List THold), m.Pairwise HLt → b.Pairwise HLt → (foldO (jstep putS) m b = none ∧ ∃ r n, cf (lookH m r n) (lookH b r n)) ∨ ((∀ r n, ¬ cf (lookH m r n) (lookH b r n)) ∧ ∃ m', foldO (jstep putS) m b = some m' ∧ m'.Pairwise HLt ∧ ∀ r n, lookH m' r n = jo (lookH m r n) (lookH b r n))
  | [], m, hm, _ => .inr ⟨fun r n h => by cases hc : lookH m r n <;> rw [hc] at h <;> exact h, m, rfl, hm, fun r n => by cases hc : lookH m r n <;> rfl⟩
  | h :: t, m, hm, hb => by
    rw [List.pairwise_cons] at hb
    have hself : lookH (h :: t) h.Replica h.Number = some h := by rw [lookH_cons, if_pos (isK_self h)]
    have htn : ∀ r n, isK r n h = true → lookH t r n = none := fun r n hk => lookH_none.2 fun x hx k => by
      have := (hb.1 x hx).off.1
      have := isK_iff.1 hk
      unfold Off at *; omega
    rcases step_look (h := h) hm with ⟨h1, h2⟩ | ⟨h1, m', h2, h3, h4⟩
    · exact .inl ⟨by simp only [foldO, h1], h.Replica, h.Number, by rw [hself]; exact h2⟩
    · have e : ∀ r n, cf (lookH m r n) (lookH (h :: t) r n) ↔ cf (lookH m' r n) (lookH t r n) := fun r n => by
        rw [h4, lookH_cons]
        by_cases hk : isK r n h = true
        · simp only [if_pos hk]
          rw [htn r n hk]
          obtain ⟨k1, k2⟩ := isK_iff.1 hk
          rw [k1, k2] at h1
          refine ⟨fun k => (h1 k).elim, fun k => ?_⟩
          cases hc : lookH m r n <;> rw [hc] at k <;> exact k.elim
        · simp only [if_neg hk]
          cases lookH m r n <;> exact Iff.rfl
      have e2 : ∀ r n, jo (lookH m' r n) (lookH t r n) = jo (lookH m r n) (lookH (h :: t) r n) := fun r n => by
        rw [h4, lookH_cons]
        by_cases hk : isK r n h = true
        · simp only [if_pos hk]
          rw [htn r n hk]
          cases lookH m r n <;> rfl
        · simp only [if_neg hk]
          cases lookH m r n <;> rfl
      simp only [foldO, h2]
      rcases fold_look t m' h3 hb.2 with ⟨g1, r, n, g2⟩ | ⟨g1, m2, g2, g3, g4⟩
      · exact .inl ⟨g1, r, n, (e r n).2 g2⟩
      · exact .inr ⟨fun r n k => g1 r n ((e r n).1 k), m2, g2, g3, fun r n => by rw [g4, e2]⟩

theorem Jn_look {a b : List THold} (ha : a.Pairwise HLt) (hb : b.Pairwise HLt) : (Jn a b = none ∧ ∃ r n, cf (lookH a r n) (lookH b r n)) ∨ ((∀ r n, ¬ cf (lookH a r n) (lookH b r n)) ∧ ∃ m', Jn a b = some m' ∧ m'.Pairwise HLt ∧ ∀ r n, lookH m' r n = jo (lookH a r n) (lookH b r n)) := fold_look b a ha hb

theorem look_mem {l : List THold} {r n : Int} {x : THold} (h : lookH l r n = some x) : x ∈ l := List.mem_of_find?_eq_some h
theorem Rts_join {a b m : List THold} (ha : Rts a) (hb : Rts b) (hm : m.Pairwise HLt) (hl : ∀ r n, lookH m r n = jo (lookH a r n) (lookH b r n)) (h16 : m.length ≤ 16) : Rts m := by
  refine ⟨fun z hz => ?_, hm, h16⟩
  have h1 : lookH m z.Replica z.Number = some z := (lookH_iff (sorted_off hm)).2 ⟨hz, rfl, rfl⟩
  rw [hl] at h1
  cases h2 : lookH a z.Replica z.Number with
  | none => rw [h2] at h1; exact hb.1 z (look_mem h1)
  | some x =>
    rw [h2] at h1
    have hx := ha.1 x (look_mem h2)
    cases h3 : lookH b z.Replica z.Number with
    | none => rw [h3] at h1; simp only [jo, Option.some.injEq] at h1; subst h1; exact hx
    | some y =>
      rw [h3] at h1
      have hy := hb.1 y (look_mem h3)
      simp only [jo, Option.some.injEq] at h1
      subst h1
      unfold HOk Cnt at *; simp only [bump]; omega

/-- What joining tells, by cases. -/
theorem JS_cases (a b : List THold) : (JS a b = ([], 1) ∧ ¬ (Rts a ∧ Rts b)) ∨ (Rts a ∧ Rts b ∧ JS a b = ([], 1) ∧ ∃ r n, cf (lookH a r n) (lookH b r n)) ∨ (Rts a ∧ Rts b ∧ (∀ r n, ¬ cf (lookH a r n) (lookH b r n)) ∧ ∃ m, m.Pairwise HLt ∧ (∀ r n, lookH m r n = jo (lookH a r n) (lookH b r n)) ∧ ((16 < m.length ∧ JS a b = ([], 7)) ∨ (m.length ≤ 16 ∧ JS a b = (m, 0) ∧ Rts m))) := by
  by_cases h : Rts a ∧ Rts b
  · rcases Jn_look h.1.2.1 h.2.2.1 with ⟨h1, h2⟩ | ⟨h1, m, h2, h3, h4⟩
    · refine .inr (.inl ⟨h.1, h.2, ?_, h2⟩)
      unfold JS; rw [if_pos h, h1]
    · refine .inr (.inr ⟨h.1, h.2, h1, m, h3, h4, ?_⟩)
      unfold JS
      rw [if_pos h, h2]
      by_cases h16 : 16 < m.length
      · exact .inl ⟨h16, by simp only; rw [if_pos h16]⟩
      · exact .inr ⟨by omega, by simp only; rw [if_neg h16], Rts_join h.1 h.2 h3 h4 (by omega)⟩
  · exact .inl ⟨by unfold JS; rw [if_neg h], h⟩

theorem JS_zero {a b : List THold} (h : (JS a b).2 = 0) : Rts a ∧ Rts b ∧ (∀ r n, ¬ cf (lookH a r n) (lookH b r n)) ∧ ∃ m, Rts m ∧ JS a b = (m, 0) ∧ ∀ r n, lookH m r n = jo (lookH a r n) (lookH b r n) := by
  rcases JS_cases a b with ⟨h1, h2⟩ | ⟨ha, hb, h1, r, n, h2⟩ | ⟨ha, hb, h1, m, h2, h3, h4⟩
  · rw [h1] at h; cases h
  · rw [h1] at h; cases h
  · rcases h4 with ⟨h5, h6⟩ | ⟨h5, h6, h7⟩
    · rw [h6] at h; cases h
    · exact ⟨ha, hb, h1, m, h7, h6, h3⟩
end Go.Av
namespace Go.Av
set_option linter.unusedSectionVars false
set_option linter.unusedVariables false
set_option linter.unusedSimpArgs false

theorem checked_eq (a : Int) (l : List Int) (hl : l.length ≤ 1000000000000) : num_checked a l = some (if ∀ x ∈ l ++ [a], IsN x then (a, 0) else (0, 2)) := by
  unfold num_checked
  rw [app_of (by simp; omega)]
  simp only [Option.bind]
  have hn : (l ++ [a]).length ≤ 1000000000000000 := by simp; omega
  generalize l ++ [a] = m at hn
  rw [loop_all m.length hn (fun i => IsN (m.getD i default)) (0, 2) () (fun i hi => ?_) (by simp [num_checked_L1])]
  · by_cases h : ∀ x ∈ m, IsN x
    · rw [if_pos (fun i hi => h _ (by simp [List.getD, hi])), if_pos h]; rfl
    · rw [if_neg (fun h2 => h fun x hx => by obtain ⟨i, hi, rfl⟩ := List.getElem_of_mem hx; simpa [List.getD, hi] using h2 i hi), if_neg h]; rfl
  · simp only [num_checked_L1, six_of hi, num_Is_eq, Option.bind]
    rw [if_pos (by simp; omega)]
    simp only [wr_succ (show i < 1000000000000000 by omega)]
    by_cases h : IsN (m.getD i default)
    · rw [if_neg (by rw [decide_eq_true h]; decide), if_pos h]
    · rw [if_pos (by rw [decide_eq_false h]; rfl), if_neg h]

def addS (a b : Int) : Int × Int := if IsN a ∧ IsN b ∧ IsN (a + b) then (a + b, 0) else (0, 2)
def subS (a b : Int) : Int × Int := if IsN a ∧ IsN b ∧ IsN (a - b) then (a - b, 0) else (0, 2)
theorem num_Add_eq (a b : Int) : num_Add a b = some (addS a b) := by
  unfold num_Add addS
  rw [checked_eq _ _ (by simp)]
  simp only [Option.bind]
  by_cases h : IsN a ∧ IsN b
  · have hw : wr .i64 (a + b) = a + b := wr_id (by unfold IsN at h; omega)
    rw [hw]
    by_cases h2 : IsN (a + b)
    · rw [if_pos (by simp [h.1, h.2, h2]), if_pos ⟨h.1, h.2, h2⟩]
    · rw [if_neg (by simp [h.1, h.2, h2]), if_neg (fun x => h2 x.2.2)]
  · rw [if_neg (fun x => h ⟨x a (by simp), x b (by simp)⟩), if_neg (fun x => h ⟨x.1, x.2.1⟩)]
theorem num_Sub_eq (a b : Int) : num_Sub a b = some (subS a b) := by
  unfold num_Sub subS
  rw [checked_eq _ _ (by simp)]
  simp only [Option.bind]
  by_cases h : IsN a ∧ IsN b
  · have hw : wr .i64 (a - b) = a - b := wr_id (by unfold IsN at h; omega)
    rw [hw]
    by_cases h2 : IsN (a - b)
    · rw [if_pos (by simp [h.1, h.2, h2]), if_pos ⟨h.1, h.2, h2⟩]
    · rw [if_neg (by simp [h.1, h.2, h2]), if_neg (fun x => h2 x.2.2)]
  · rw [if_neg (fun x => h ⟨x a (by simp), x b (by simp)⟩), if_neg (fun x => h ⟨x.1, x.2.1⟩)]
/-- All, added; none, if it is too great on the way. -/
def sumO : Int → List Int → Option Int
  | n, [] => some n
  | n, x :: t => if (addS n x).2 = 0 then sumO (addS n x).1 t else none
def sumS (l : List Int) : Int × Int := match sumO 0 l with | some n => (n, 0) | none => (0, 2)
theorem addS_err (a b : Int) (h : (addS a b).2 ≠ 0) : (addS a b).2 = 2 := by
  by_cases hc : IsN a ∧ IsN b ∧ IsN (a + b)
  · rw [addS, if_pos hc] at h; exact (h rfl).elim
  · rw [addS, if_neg hc]
theorem sum_loop' (l : List Int) {ρ : Type} {body : Int × Int → Option ((Int × Int) ⊕ ρ)} (fin : Int → Option ρ) (er : Option ρ)
    (hb : ∀ (i : Nat) (n : Int), i < l.length → body ((i : Int), n) = if (addS n (l.getD i default)).2 = 0 then some (.inl ((((i + 1 : Nat)) : Int), (addS n (l.getD i default)).1)) else er.map .inr) (hf : ∀ n, body ((l.length : Int), n) = (fin n).map .inr) :
    ∀ (k i : Nat) (n : Int), i + k = l.length → ∀ m, k < m → loopM body m ((i : Int), n) = match sumO n (l.drop i) with | some n => fin n | none => er
  | k, i, n, hk, 0, hm => by omega
  | 0, i, n, hk, m + 1, hm => by
    obtain rfl : i = l.length := by omega
    rw [List.drop_length]
    simp only [loopM, hf, sumO]
    cases fin n <;> rfl
  | k + 1, i, n, hk, m + 1, hm => by
    have hi : i < l.length := by omega
    have hd : l.drop i = l.getD i default :: l.drop (i + 1) := by rw [List.drop_eq_getElem_cons hi]; simp [List.getD, hi]
    rw [hd, sumO]
    simp only [loopM, hb i n hi]
    by_cases h : (addS n (l.getD i default)).2 = 0
    · rw [if_pos h, if_pos h]
      exact sum_loop' l fin er hb hf k (i + 1) _ (by omega) m (by omega)
    · rw [if_neg h, if_neg h]
      cases er <;> rfl
theorem sum_loop (l : List Int) (hl : l.length ≤ 1000000000000) {ρ : Type} {body : Int × Int → Option ((Int × Int) ⊕ ρ)} (fin : Int → Option ρ) (er : Option ρ)
    (hb : ∀ (i : Nat) (n : Int), i < l.length → body ((i : Int), n) = if (addS n (l.getD i default)).2 = 0 then some (.inl ((((i + 1 : Nat)) : Int), (addS n (l.getD i default)).1)) else er.map .inr) (hf : ∀ n, body ((l.length : Int), n) = (fin n).map .inr) :
    loopM body fuel (0, 0) = match sumO 0 l with | some n => fin n | none => er :=
  sum_loop' l fin er hb hf l.length 0 0 (by omega) fuel (by have := fuel_big; omega)
theorem num_Sum_eq (l : List Int) (hl : l.length ≤ 1000000000000) : num_Sum l = some (sumS l) := by
  have h1 : num_Sum_1 l = sumO 0 l := by
    unfold num_Sum_1
    rw [sum_loop l hl (fun n => some n) none (fun i n hi => ?_) (fun n => by simp [num_Sum_1_L1])]
    · cases sumO 0 l <;> rfl
    · simp only [num_Sum_1_L1, six_of hi, num_Add_eq, num_Must, Option.bind]
      rw [if_pos (by simp; omega)]
      simp only [wr_succ (show i < 1000000000000000 by omega)]
      by_cases h : (addS n (l.getD i default)).2 = 0
      · rw [if_neg (by rw [decide_eq_true h]; decide), if_pos h]
      · rw [if_pos (by rw [decide_eq_false h]; rfl), if_neg h]; rfl
  have h2 : num_Sum_P l = match sumO 0 l with | some _ => none | none => some 2 := by
    unfold num_Sum_P
    rw [sum_loop l hl (fun n => none) (some 2) (fun i n hi => ?_) (fun n => by simp [num_Sum_P_L1])]
    simp only [num_Sum_P_L1, six_of hi, num_Add_eq, Option.bind]
    rw [if_pos (by simp; omega)]
    simp only [wr_succ (show i < 1000000000000000 by omega)]
    by_cases h : (addS n (l.getD i default)).2 = 0
    · rw [if_pos (by rw [decide_eq_true h]), if_pos h]
    · rw [if_neg (by rw [decide_eq_false h]; decide), if_neg h, addS_err _ _ h]; rfl
  unfold num_Sum sumS
  rw [h1, h2]
  cases sumO 0 l <;> rfl
end Go.Av
namespace Go.Av
set_option linter.unusedSectionVars false
set_option linter.unusedVariables false
set_option linter.unusedSimpArgs false

def VOk (v : Vector Int 16) : Prop := ∀ k : Fin 16, 0 ≤ v.get k ∧ v.get k ≤ 1099511627776
instance (v : Vector Int 16) : Decidable (VOk v) := by unfold VOk; infer_instance
def at16 (v : Vector Int 16) (i : Nat) : Int := if h : i < 16 then v.get ⟨i, h⟩ else 0
def ROk (r : TRights) : Prop := VOk r.Given ∧ VOk r.Used ∧ ∀ k : Fin 16, VOk (r.Moved.get k) ∧ (r.Moved.get k).get k = 0
instance (r : TRights) : Decidable (ROk r) := by unfold ROk; infer_instance
def row (r : TRights) (i : Nat) : Prop := ∀ h : i < 16, VOk (r.Moved.get ⟨i, h⟩) ∧ (r.Moved.get ⟨i, h⟩).get ⟨i, h⟩ = 0
instance (r : TRights) (i : Nat) : Decidable (row r i) := by unfold row; infer_instance
/-- What was given is what must be. -/
def gives (g u : Vector Int 16) (room : Int) : Prop := (sumS g.toList).2 = 0 ∧ (sumS u.toList).2 = 0 ∧ (addS room (sumS u.toList).1).2 = 0 ∧ (sumS g.toList).1 = (addS room (sumS u.toList).1).1
instance (g u : Vector Int 16) (room : Int) : Decidable (gives g u room) := by unfold gives; infer_instance
def COk (c : TCounter) : Prop := IsN c.Init ∧ IsN c.Low ∧ IsN c.High ∧ c.Low ≤ c.Init ∧ c.Init ≤ c.High ∧ ROk c.Down ∧ ROk c.Up ∧ gives c.Down.Given c.Up.Used (c.Init - c.Low) ∧ gives c.Up.Given c.Down.Used (c.High - c.Init)
instance (c : TCounter) : Decidable (COk c) := by unfold COk; infer_instance
theorem gd_nb {p : Prop} [Decidable p] {b : Bool} : gd p (some b) = some (if p then b else false) := by by_cases h : p <;> simp [gd, h]
end Go.Av
namespace Go.Av
set_option linter.unusedSectionVars false
set_option linter.unusedVariables false
set_option linter.unusedSimpArgs false

theorem foldl_app {α : Type} (g : Nat → α) : ∀ (n : Nat) (l : List α), (List.range n).foldl (fun s i => s ++ [g i]) l = l ++ (List.range n).map g
  | 0, l => by simp
  | n + 1, l => by rw [List.range_succ, List.foldl_append, foldl_app g n l]; simp
def negs (v : Vector Int 16) : List Int := (List.range 16).map fun i => wr .i64 (0 - at16 v i)
def valL (c : TCounter) : List Int := [c.Init] ++ c.Up.Used.toList ++ negs c.Down.Used
theorem counter_Value_eq (c : TCounter) : counter_Value c = some (sumS (valL c)) := by
  unfold counter_Value
  rw [app_of (by simp)]
  simp only [Option.bind]
  have hlen : ([c.Init] ++ c.Up.Used.toList).length = 17 := by simp
  have hv : (valL c).length ≤ 1000000000000 := by simp [valL, negs]
  rw [(loop_fold 16 (by omega) (fun s i => s ++ [wr .i64 (0 - at16 c.Down.Used i)]) id (fun i s => s.length = 17 + i) hlen (fun i s hi hJ => ⟨?_, by simp; omega⟩) (fun s _ => by simp [counter_Value_L1])).1]
  · simp only [id]
    rw [foldl_app]
    rw [show [c.Init] ++ c.Up.Used.toList ++ (List.range 16).map (fun i => wr .i64 (0 - at16 c.Down.Used i)) = valL c from rfl, num_Sum_eq _ hv]
  · have e : at16 c.Down.Used i = c.Down.Used.get ⟨i, hi⟩ := by unfold at16; rw [dif_pos hi]
    simp only [counter_Value_L1, fix_of hi, Option.bind]
    rw [if_pos (by simp; omega), app_of (by simp; omega)]
    simp only [wr_succ (show i < 1000000000000000 by omega), e]
theorem at16_list (v : Vector Int 16) : (List.range 16).map (at16 v) = v.toList := by
  apply List.ext_getElem (by simp)
  intro i h1 h2
  have hi : i < 16 := by simpa using h1
  rw [List.getElem_map, List.getElem_range, at16, dif_pos hi, Vector.getElem_toList]
  rfl
/-- A loop that puts sixteen numbers behind others. -/
theorem app_loop {body : Int × List Int → Option ((Int × List Int) ⊕ List Int)} (g : Nat → Int) (l : List Int) (hl : l.length ≤ 1000000) (hb : ∀ (i : Nat) (s : List Int), i < 16 → s.length ≤ 1000016 → body ((i : Int), s) = some (.inl ((((i + 1 : Nat)) : Int), s ++ [g i]))) (hf : ∀ s, body ((16 : Int), s) = some (.inr s)) :
    loopM body fuel (0, l) = some (l ++ (List.range 16).map g) := by
  rw [(loop_fold 16 (by omega) (fun s i => s ++ [g i]) id (fun i s => s.length = l.length + i) rfl (fun i s hi hJ => ⟨hb i s hi (by omega), by simp; omega⟩) (fun s _ => hf s)).1]
  simp only [id]
  rw [foldl_app]
end Go.Av
namespace Go.Av
set_option linter.unusedSectionVars false
set_option linter.unusedVariables false
set_option linter.unusedSimpArgs false

def rowAt (r : TRights) (i : Nat) : Vector Int 16 := if h : i < 16 then r.Moved.get ⟨i, h⟩ else default
def freeL (r : TRights) (k : Nat) : List Int := [at16 r.Given k] ++ (List.range 16).map (fun i => at16 (rowAt r i) k) ++ [wr .i64 (0 - at16 r.Used k)] ++ negs (rowAt r k)
def freeS (r : TRights) (k : Int) : Int × Int := if 0 ≤ k ∧ k < 16 then sumS (freeL r k.toNat) else (0, 1)
theorem at16_of (v : Vector Int 16) {i : Nat} (hi : i < 16) : at16 v i = v.get ⟨i, hi⟩ := by unfold at16; rw [dif_pos hi]
theorem rowAt_of (r : TRights) {i : Nat} (hi : i < 16) : rowAt r i = r.Moved.get ⟨i, hi⟩ := by unfold rowAt; rw [dif_pos hi]
theorem less_eq (v : Vector Int 16) : rights_less v = some (negs v) := by
  unfold rights_less
  rw [app_loop (fun i => wr .i64 (0 - at16 v i)) _ (by simp) (fun i s hi hs => ?_) (fun s => by simp [rights_less_L1])]
  · simp [negs]
  · simp only [rights_less_L1, fix_of hi, Option.bind]
    rw [if_pos (by simp; omega), app_of (by simp; omega)]
    simp only [wr_succ (show i < 1000000000000000 by omega), at16_of v hi]
theorem rights_Free_eq (r : TRights) (k : Int) : rights_Free r k = some (freeS r k) := by
  unfold rights_Free freeS
  have his : rights_is k = some (decide (0 ≤ k ∧ k < 16)) := sd (by simp)
  rw [his]
  simp only [Option.bind]
  by_cases hk : 0 ≤ k ∧ k < 16
  · obtain ⟨n, rfl⟩ : ∃ n : Nat, k = (n : Int) := ⟨k.toNat, by omega⟩
    have hn : n < 16 := by omega
    rw [if_neg (by rw [decide_eq_true hk]; decide), if_pos hk, fix_of hn]
    simp only []
    rw [app_loop (fun i => at16 (rowAt r i) n) _ (by simp) (fun i s hi hs => ?_) (fun s => by simp [rights_Free_L1])]
    · simp only []
      rw [app_of (by simp)]
      simp only [letM_eq, less_eq]
      rw [app_of (by simp [negs])]
      simp only []
      have e : [r.Given.get ⟨n, hn⟩] ++ (List.range 16).map (fun i => at16 (rowAt r i) n) ++ [wr .i64 (0 - r.Used.get ⟨n, hn⟩)] ++ negs (r.Moved.get ⟨n, hn⟩) = freeL r n := by
        unfold freeL; rw [at16_of _ hn, at16_of _ hn, rowAt_of r hn]
      rw [e, num_Sum_eq _ (by simp [freeL, negs])]
      rfl
    · simp only [rights_Free_L1, fix_of hi, fix_of hn, Option.bind, letM_eq]
      rw [if_pos (by simp; omega), app_of (by simp; omega)]
      simp only [wr_succ (show i < 1000000000000000 by omega), rowAt_of r hi, at16_of _ hn]
  · rw [if_pos (by rw [decide_eq_false hk]; rfl), if_neg hk]
end Go.Av
namespace Go.Av
set_option linter.unusedSectionVars false
set_option linter.unusedVariables false
set_option linter.unusedSimpArgs false

theorem awake7_eq : usufructlaw07_awake = some true := by decide +kernel

def bAt (s : ByteArray) (i : Nat) : Int := (bix s (i : Int)).getD 0
theorem bix_of {s : ByteArray} {i : Nat} (h : i < s.size) : bix s (i : Int) = some (bAt s i) := by
  unfold bAt bix
  rw [dif_pos (by omega)]
  rfl
def NameOk (s : ByteArray) : Prop := (∀ i : Nat, i < s.size → 33 ≤ bAt s i ∧ bAt s i ≤ 126) ∧ 1 ≤ s.size ∧ s.size ≤ 8
instance (s : ByteArray) : Decidable (NameOk s) := by unfold NameOk; infer_instance
theorem field_Name_eq (s : ByteArray) (hs : s.size ≤ 1000000000000000) : field_Name s = some (decide (NameOk s)) := by
  unfold field_Name
  rw [loop_all s.size hs (fun i => 33 ≤ bAt s i ∧ bAt s i ≤ 126) false () (fun i hi => ?_) (by simp [field_Name_L1])]
  · by_cases h : ∀ i : Nat, i < s.size → 33 ≤ bAt s i ∧ bAt s i ≤ 126
    · rw [if_pos h]
      refine sd ?_
      simp only [NameOk, Bool.and_eq_true, decide_eq_true_eq]
      exact ⟨fun k => ⟨h, by omega, by omega⟩, fun k => ⟨by omega, by omega⟩⟩
    · rw [if_neg h, decide_eq_false (p := NameOk s) (fun k => h k.1)]; rfl
  · simp only [field_Name_L1, bix_of hi, Option.bind]
    rw [if_pos (by simp; omega)]
    simp only [wr_succ (show i < 1000000000000000 by omega)]
    by_cases h1 : bAt s i < 33
    · rw [gd_f (by rw [decide_eq_true h1]; decide)]
      simp only []
      rw [if_pos (by rw [decide_eq_true h1]; rfl), if_neg (by omega)]
    · rw [gd_t (by rw [decide_eq_false h1])]
      simp only []
      by_cases h2 : 126 < bAt s i
      · rw [if_pos (by rw [decide_eq_true h2]; simp), if_neg (by omega)]
      · rw [if_neg (by rw [decide_eq_false h1, decide_eq_false h2]; decide), if_pos (by omega)]

def cnt (x : Int) : Prop := 0 ≤ x ∧ IsN x
instance (x : Int) : Decidable (cnt x) := by unfold cnt; infer_instance
def LOk (l : TLock) : Prop := cnt l.Seq ∧ cnt l.Ver ∧ 0 ≤ l.Holder ∧ l.Holder ≤ 15 ∧ IsN l.Value
instance (l : TLock) : Decidable (LOk l) := by unfold LOk; infer_instance
def zeroC : TCounter := ⟨0, 0, 0, default, default⟩
def zeroL : TLock := ⟨0, 0, 0, 0⟩
def FOk (f : TField) : Prop := NameOk f.Name ∧ cnt f.Epoch ∧ ((f.Kind = 1 ∧ COk f.Counter ∧ Rts f.Holds ∧ f.Lock = zeroL) ∨ (f.Kind = 2 ∧ LOk f.Lock ∧ f.Holds = [] ∧ f.Counter = zeroC))
instance (f : TField) : Decidable (FOk f) := by unfold FOk; infer_instance
end Go.Av
namespace Go.Av
set_option linter.unusedSectionVars false
set_option linter.unusedVariables false
set_option linter.unusedSimpArgs false

def only (d : Int) : Vector Int 16 := (default : Vector Int 16).set 0 d
def newC (i l h : Int) : TCounter := ⟨i, l, h, ⟨only (i - l), default, default⟩, ⟨only (h - i), default, default⟩⟩
def NewOk (i l h : Int) : Prop := IsN i ∧ IsN l ∧ IsN h ∧ l ≤ i ∧ i ≤ h ∧ IsN (h - l)
instance (i l h : Int) : Decidable (NewOk i l h) := by unfold NewOk; infer_instance
theorem counter_New_eq (i l h : Int) : counter_New i l h = some (if NewOk i l h then (newC i l h, 0) else (zeroC, 2)) := by
  unfold counter_New
  simp only [num_Sub_eq, letM_eq, Option.bind]
  by_cases hn : NewOk i l h
  · have hn' := hn
    unfold NewOk IsN at hn'
    have e1 : subS i l = (i - l, 0) := by unfold subS; rw [if_pos ⟨hn.1, hn.2.1, by unfold IsN; omega⟩]
    have e2 : subS h i = (h - i, 0) := by unfold subS; rw [if_pos ⟨hn.2.2.1, hn.1, by unfold IsN; omega⟩]
    have e3 : subS h l = (h - l, 0) := by unfold subS; rw [if_pos ⟨hn.2.2.1, hn.2.1, hn.2.2.2.2.2⟩]
    rw [e1, e2, e3, if_neg (by simp; omega), if_pos hn]
    rfl
  · rw [if_neg hn, if_pos]
    · rfl
    · by_cases h1 : (subS i l).2 = 0
      · by_cases h2 : (subS h i).2 = 0
        · by_cases h3 : (subS h l).2 = 0
          · have g1 : IsN i ∧ IsN l ∧ IsN (i - l) := Classical.byContradiction fun k => by unfold subS at h1; rw [if_neg k] at h1; cases h1
            have g2 : IsN h ∧ IsN i ∧ IsN (h - i) := Classical.byContradiction fun k => by unfold subS at h2; rw [if_neg k] at h2; cases h2
            have g3 : IsN h ∧ IsN l ∧ IsN (h - l) := Classical.byContradiction fun k => by unfold subS at h3; rw [if_neg k] at h3; cases h3
            have e1 : subS i l = (i - l, 0) := by unfold subS; rw [if_pos g1]
            have e2 : subS h i = (h - i, 0) := by unfold subS; rw [if_pos g2]
            rw [e1, e2]
            have : i - l < 0 ∨ h - i < 0 := Classical.byContradiction fun k => hn ⟨g1.1, g1.2.1, g2.1, by omega, by omega, g3.2.2⟩
            rcases this with k | k <;> simp [k]
          · simp [h3]
        · simp [h2]
      · simp [h1]

theorem field_done_eq (f : TField) (e : Int) (hh : f.Holds.length ≤ 1000000000000) : field_done f e = some (if e = 0 then (f, 0) else (default, e)) := by
  unfold field_done
  by_cases h : e = 0
  · rw [if_neg (by simp [h]), if_pos h, app_of (by simp; omega)]; rfl
  · rw [if_pos (by simp [h]), if_neg h]; rfl
def fieldC (s : ByteArray) (i l h : Int) : TField × Int := if NameOk s then (if NewOk i l h then (⟨s, 1, 0, newC i l h, zeroL, []⟩, 0) else (default, 2)) else (default, 1)
theorem field_Counter_eq (s : ByteArray) (i l h : Int) (hs : s.size ≤ 1000000000000000) : field_Counter s i l h = some (fieldC s i l h) := by
  unfold field_Counter fieldC
  rw [counter_New_eq, field_Name_eq s hs]
  simp only [Option.bind, letM_eq]
  by_cases h1 : NameOk s
  · rw [if_neg (by simp [h1]), if_pos h1]
    by_cases h2 : NewOk i l h
    · rw [if_pos h2, if_pos h2, field_done_eq _ _ (by simp)]; rfl
    · rw [if_neg h2, if_neg h2, field_done_eq _ _ (by simp)]; rfl
  · rw [if_pos (by simp [h1]), if_neg h1, field_done_eq _ _ (by simp)]; rfl
def LNewOk (k v : Int) : Prop := (0 ≤ k ∧ k < 16) ∧ IsN v
instance (k v : Int) : Decidable (LNewOk k v) := by unfold LNewOk; infer_instance
end Go.Av
namespace Go.Av
set_option linter.unusedSectionVars false
set_option linter.unusedVariables false
set_option linter.unusedSimpArgs false

theorem fix_int {k : Nat} {n : Int} (h0 : 0 ≤ n) (h1 : n < (k : Int)) : fix_ k n = some ⟨n.toNat, by omega⟩ := by unfold fix_; rw [dif_pos ⟨h0, h1⟩]
def set16 (v : Vector Int 16) (i : Nat) (x : Int) : Vector Int 16 := if h : i < 16 then v.set i x h else v
theorem set16_of (v : Vector Int 16) {i : Nat} (hi : i < 16) (x : Int) : set16 v i x = v.set i x hi := by unfold set16; rw [dif_pos hi]
def setRow (m : Vector (Vector Int 16) 16) (i : Nat) (x : Vector Int 16) : Vector (Vector Int 16) 16 := if h : i < 16 then m.set i x h else m
theorem setRow_of (m : Vector (Vector Int 16) 16) {i : Nat} (hi : i < 16) (x : Vector Int 16) : setRow m i x = m.set i x hi := by unfold setRow; rw [dif_pos hi]

def growS (v : Vector Int 16) (k n : Int) : Vector Int 16 × Int :=
  if 0 ≤ k ∧ k < 16 ∧ 0 ≤ n then (if (addS (at16 v k.toNat) n).2 = 0 then (set16 v k.toNat (addS (at16 v k.toNat) n).1, 0) else (default, (addS (at16 v k.toNat) n).2)) else (default, 1)
theorem vec_Grow_eq (v : Vector Int 16) (k n : Int) : vec_Grow v k n = some (growS v k n) := by
  unfold vec_Grow growS
  by_cases h : 0 ≤ k ∧ k < 16 ∧ 0 ≤ n
  · have hk : k.toNat < 16 := by omega
    rw [if_neg (by simp; omega), if_pos h, fix_int h.1 h.2.1]
    simp only [Option.bind, num_Add_eq, letM_eq, at16_of v hk, set16_of v hk]
    by_cases h2 : (addS (v.get ⟨k.toNat, hk⟩) n).2 = 0
    · rw [if_neg (by simp [h2]), if_pos h2]
    · rw [if_pos (by simp [h2]), if_neg h2]
  · rw [if_pos (by simp; omega), if_neg h]; rfl
def giveS (r : TRights) (k n : Int) : TRights × Int := if (growS r.Given k n).2 = 0 then ({ r with Given := (growS r.Given k n).1 }, 0) else (default, (growS r.Given k n).2)
theorem zeroR : (⟨(default : Vector Int 16), (default : Vector Int 16), (default : Vector (Vector Int 16) 16)⟩ : TRights) = default := rfl
theorem rights_Give_eq (r : TRights) (k n : Int) : rights_Give r k n = some (giveS r k n) := by
  unfold rights_Give giveS
  simp only [vec_Grow_eq, Option.bind, letM_eq, zeroR]
  by_cases h : (growS r.Given k n).2 = 0
  · rw [if_neg (by simp [h]), if_pos h]
  · rw [if_pos (by simp [h]), if_neg h]
def enoughS (r : TRights) (k n : Int) : Int := if n < 0 then 1 else if (freeS r k).2 = 0 then (if (freeS r k).1 < n then 8 else 0) else (freeS r k).2
theorem rights_enough_eq (r : TRights) (k n : Int) : rights_enough r k n = some (enoughS r k n) := by
  unfold rights_enough enoughS
  simp only [rights_Free_eq, Option.bind]
  by_cases h : n < 0
  · rw [if_pos (by simp [h]), if_pos h]
  · rw [if_neg (by simpa using h), if_neg h]
    by_cases h2 : (freeS r k).2 = 0
    · rw [if_neg (by simp [h2]), if_pos h2]
      by_cases h3 : (freeS r k).1 < n
      · rw [if_pos (by simp [h3]), if_pos h3]
      · rw [if_neg (by simpa using h3), if_neg h3]
    · rw [if_pos (by simp [h2]), if_neg h2]
def useS (r : TRights) (k n : Int) : TRights × Int :=
  if enoughS r k n = 0 then (if (growS r.Used k n).2 = 0 then ({ r with Used := (growS r.Used k n).1 }, 0) else (default, (growS r.Used k n).2)) else (default, enoughS r k n)
theorem rights_Use_eq (r : TRights) (k n : Int) : rights_Use r k n = some (useS r k n) := by
  unfold rights_Use useS
  simp only [rights_enough_eq, vec_Grow_eq, Option.bind, letM_eq, zeroR]
  by_cases h : enoughS r k n = 0
  · rw [if_pos (by simp [h]), if_pos h]
    by_cases h2 : (growS r.Used k n).2 = 0
    · rw [if_neg (by simp [h2]), if_pos h2]
    · rw [if_pos (by simp [h2]), if_neg h2]
  · rw [if_neg (by simp [h]), if_neg h, if_pos (by simp [h])]
def moveS (r : TRights) (i k n : Int) : TRights × Int :=
  if 0 ≤ i ∧ i < 16 ∧ 0 ≤ k ∧ k < 16 ∧ i ≠ k then
    (if enoughS r i n = 0 then (if (growS (rowAt r i.toNat) k n).2 = 0 then ({ r with Moved := setRow r.Moved i.toNat (growS (rowAt r i.toNat) k n).1 }, 0) else (default, (growS (rowAt r i.toNat) k n).2)) else (default, enoughS r i n))
  else (default, 1)

def decS (c : TCounter) (k n : Int) : TCounter × Int :=
  if (useS c.Down k n).2 = 0 then (if (giveS c.Up k n).2 = 0 then ({ c with Down := (useS c.Down k n).1, Up := (giveS c.Up k n).1 }, 0) else (default, (giveS c.Up k n).2)) else (default, (useS c.Down k n).2)
def incS (c : TCounter) (k n : Int) : TCounter × Int :=
  if (useS c.Up k n).2 = 0 then (if (giveS c.Down k n).2 = 0 then ({ c with Down := (giveS c.Down k n).1, Up := (useS c.Up k n).1 }, 0) else (default, (giveS c.Down k n).2)) else (default, (useS c.Up k n).2)
theorem counter_done_eq (c : TCounter) (e : Int) : counter_done c e = some (if e = 0 then (c, 0) else (default, e)) := by
  unfold counter_done
  by_cases h : e = 0
  · rw [if_neg (by simp [h]), if_pos h]
  · rw [if_pos (by simp [h]), if_neg h]; rfl
theorem counter_Dec_eq (c : TCounter) (k n : Int) : counter_Dec c k n = some (decS c k n) := by
  unfold counter_Dec counter_both_Dec_1_Dec_2_Dec_3 counter_Dec_1 counter_Dec_2 counter_Dec_3 decS
  simp only [rights_Use_eq, rights_Give_eq, counter_done_eq, Option.bind, letM_eq]
  by_cases h : (useS c.Down k n).2 = 0
  · rw [if_neg (by simp [h]), if_pos h]
    by_cases h2 : (giveS c.Up k n).2 = 0
    · rw [if_pos (by simp [h2]), if_pos h2]; simp [h2]
    · rw [if_neg (by simp [h2]), if_neg h2]; simp [h2]
  · rw [if_pos (by simp [h]), if_neg h]; simp [h]
theorem counter_Inc_eq (c : TCounter) (k n : Int) : counter_Inc c k n = some (incS c k n) := by
  unfold counter_Inc counter_both_Inc_1_Inc_2_Inc_3 counter_Inc_1 counter_Inc_2 counter_Inc_3 incS
  simp only [rights_Use_eq, rights_Give_eq, counter_done_eq, Option.bind, letM_eq]
  by_cases h : (useS c.Up k n).2 = 0
  · rw [if_neg (by simp [h]), if_pos h]
    by_cases h2 : (giveS c.Down k n).2 = 0
    · rw [if_pos (by simp [h2]), if_pos h2]; simp [h2]
    · rw [if_neg (by simp [h2]), if_neg h2]; simp [h2]
  · rw [if_pos (by simp [h]), if_neg h]; simp [h]
end Go.Av
namespace Go.Av
set_option linter.unusedSectionVars false
set_option linter.unusedVariables false
set_option linter.unusedSimpArgs false

def viewS (f : TField) : Int × Int := if f.Kind = 1 then sumS (valL f.Counter) else if f.Kind = 2 then (f.Lock.Value, 0) else (0, 17)
theorem field_View_eq (f : TField) : field_View f = some (viewS f) := by
  unfold field_View viewS
  simp only [counter_Value_eq, Option.bind]
  by_cases h : f.Kind = 1
  · rw [if_pos (by simp [h]), if_pos h]
  · rw [if_neg (by simp [h]), if_neg h]
    by_cases h2 : f.Kind = 2
    · rw [if_pos (by simp [h2]), if_pos h2]
    · rw [if_neg (by simp [h2]), if_neg h2]
def looseS (f : TField) (k : Int) : Int × Int := if f.Kind = 1 then (wr .i64 ((freeS f.Counter.Down k).1 - SumS f.Holds k), (freeS f.Counter.Up k).1) else (0, 0)
theorem field_Loose_eq (f : TField) (k : Int) (hh : f.Holds.length ≤ 1000000000000) : field_Loose f k = some (looseS f k) := by
  unfold field_Loose looseS counter_Room
  simp only [rights_Free_eq, hold_Sum_eq _ _ hh, Option.bind]
  by_cases h : f.Kind = 1
  · rw [if_neg (by simp [h]), if_pos h]
  · rw [if_pos (by simp [h]), if_neg h]
end Go.Av
namespace Go.Av
set_option linter.unusedSectionVars false
set_option linter.unusedVariables false
set_option linter.unusedSimpArgs false

theorem zeroF : (⟨(default : ByteArray), 0, 0, (default : TCounter), (default : TLock), ([] : List THold)⟩ : TField) = default := rfl
theorem zeroLk : (⟨0, 0, 0, 0⟩ : TLock) = default := rfl
def withS (f : TField) (c : TCounter × Int) : TField × Int := if c.2 = 0 then ({ f with Counter := c.1 }, 0) else (default, c.2)
theorem field_done_eq' (f : TField) (e : Int) (hh : f.Holds.length ≤ 1000000000000) : field_done f e = some (if e = 0 then (f, 0) else (default, e)) := by
  unfold field_done
  by_cases h : e = 0
  · rw [if_neg (by simp [h]), if_pos h, app_of (by simp; omega)]; rfl
  · rw [if_pos (by simp [h]), if_neg h]; rfl
theorem field_changed_eq (f : TField) (c : TCounter) (e : Int) (hh : f.Holds.length ≤ 1000000000000) : field_changed f c e = some (withS f (c, e)) := by
  unfold field_changed withS
  simp only [letM_eq]
  rw [field_done_eq' _ _ (by exact hh)]
  by_cases h : e = 0
  · simp [h]
  · simp [h]
def lacksS (f : TField) (k n : Int) : Int := if f.Kind = 1 then (if (looseS f k).1 < n then 8 else 0) else 17
theorem field_lacks_eq (f : TField) (k n : Int) (hh : f.Holds.length ≤ 1000000000000) : field_lacks f k n = some (lacksS f k n) := by
  unfold field_lacks lacksS
  simp only [field_Loose_eq _ _ hh, Option.bind]
  by_cases h : f.Kind = 1
  · rw [if_neg (by simp [h]), if_pos h]
    by_cases h2 : (looseS f k).1 < n
    · rw [if_pos (by simp [h2]), if_pos h2]
    · rw [if_neg (by simpa using h2), if_neg h2]
  · rw [if_pos (by simp [h]), if_neg h]

def reserveF (f : TField) (k a d : Int) : TField × Int × Int :=
  if f.Kind = 1 then (if (looseS f k).1 < a then (default, 0, 8) else if (ResS f.Holds k a d).2.2 = 0 then ({ f with Holds := (ResS f.Holds k a d).1 }, (ResS f.Holds k a d).2.1, 0) else (default, 0, (ResS f.Holds k a d).2.2)) else (default, 0, 17)
theorem field_Reserve_eq (f : TField) (k a d : Int) (hh : f.Holds.length ≤ 1000000000) : field_Reserve f k a d = some (reserveF f k a d) := by
  unfold field_Reserve reserveF
  simp only [field_lacks_eq _ _ _ (show f.Holds.length ≤ 1000000000000 by omega), hold_Reserve_eq _ _ _ _ (show f.Holds.length ≤ 1000000000000 by omega), Option.bind, letM_eq, zeroF, lacksS]
  by_cases h : f.Kind = 1
  · simp only [if_pos h]
    by_cases h2 : (looseS f k).1 < a
    · simp [h2]
    · simp only [if_neg h2]
      by_cases h3 : (ResS f.Holds k a d).2.2 = 0
      · simp [h3]
      · simp [h3]
  · simp [h]
def endFd (f : TField) (k n st : Int) : TField × Int :=
  if f.Kind = 1 then (if (EndS f.Holds k n st).2.2 = 0 then (if st = 2 then withS { f with Holds := (EndS f.Holds k n st).1 } (decS f.Counter k (EndS f.Holds k n st).2.1) else ({ f with Holds := (EndS f.Holds k n st).1 }, 0)) else (default, (EndS f.Holds k n st).2.2)) else (default, 17)
theorem EndS_len (l : List THold) (k n st : Int) : (EndS l k n st).1.length ≤ l.length := by
  unfold EndS
  split
  · split
    · simp
    · split <;> simp
  · simp
theorem field_End_eq (f : TField) (k n st : Int) (hh : f.Holds.length ≤ 1000000000) : field_End f k n st = some (endFd f k n st) := by
  unfold field_End endFd
  have hl := EndS_len f.Holds k n st
  simp only [hold_End_eq _ _ _ _ (show f.Holds.length ≤ 1000000000000 by omega), counter_Dec_eq, Option.bind, letM_eq, zeroF]
  by_cases h : f.Kind = 1
  · rw [if_neg (by simp [h]), if_pos h]
    by_cases h2 : (EndS f.Holds k n st).2.2 = 0
    · rw [if_pos h2]
      by_cases h3 : st = 2
      · rw [if_pos (by rw [decide_eq_true h2, decide_eq_true h3]; rfl), if_pos h3, field_done_eq' _ _ (by simp only; omega)]
        unfold withS
        by_cases h4 : (decS f.Counter k (EndS f.Holds k n st).2.1).2 = 0 <;> simp [h4]
      · rw [if_neg (by simp [h3]), if_neg h3, field_done_eq' _ _ (by simp only; omega)]
        simp [h2]
    · rw [if_neg (by simp [h2]), if_neg h2, field_done_eq' _ _ (by simp only; omega)]
      simp [h2]
  · rw [if_pos (by simp [h]), if_neg h]
def expireF (f : TField) (k now : Int) : TField × Int := if f.Kind = 1 then ({ f with Holds := (Exp f.Holds k now).1 }, (Exp f.Holds k now).2) else (f, 0)
theorem field_Expire_eq (f : TField) (k now : Int) (hh : f.Holds.length ≤ 1000000000) : field_Expire f k now = some (expireF f k now) := by
  unfold field_Expire expireF
  simp only [hold_Expire_eq _ _ _ (show f.Holds.length ≤ 1000000000000 by omega), Option.bind, letM_eq]
  by_cases h : f.Kind = 1
  · rw [if_pos (by simp [h]), if_pos h]
  · rw [if_neg (by simp [h]), if_neg h, app_of (by simp; omega)]; rfl
end Go.Av
namespace Go.Av
set_option linter.unusedSectionVars false
set_option linter.unusedVariables false
set_option linter.unusedSimpArgs false

theorem rights_is_eq (k : Int) : rights_is k = some (decide (0 ≤ k ∧ k < 16)) := sd (by simp)
theorem rights_Move_eq (r : TRights) (i k n : Int) : rights_Move r i k n = some (moveS r i k n) := by
  unfold rights_Move moveS
  simp only [rights_is_eq, rights_enough_eq, Option.bind, gd_nb, letM_eq, zeroR, vec_Grow_eq]
  by_cases h : 0 ≤ i ∧ i < 16 ∧ 0 ≤ k ∧ k < 16 ∧ i ≠ k
  · rw [if_pos h]
    obtain ⟨h1, h2, h3, h4, h5⟩ := h
    have hi : i.toNat < 16 := by omega
    rw [if_neg (by simp [h1, h2, h3, h4, h5])]
    by_cases h6 : enoughS r i n = 0
    · rw [if_pos (by simp [h6]), if_pos h6, fix_int h1 h2]
      simp only [rowAt_of r hi, setRow_of _ hi]
      by_cases h7 : (growS (r.Moved.get ⟨i.toNat, hi⟩) k n).2 = 0
      · rw [if_neg (by simp [h7]), if_pos h7]
      · rw [if_pos (by simp [h7]), if_neg h7]
    · rw [if_neg (by simp [h6]), if_neg h6, if_pos (by simp [h6])]
  · rw [if_neg h, if_pos]
    by_cases h1 : 0 ≤ i ∧ i < 16
    · by_cases h2 : 0 ≤ k ∧ k < 16
      · have : i = k := Classical.byContradiction fun h3 => h ⟨h1.1, h1.2, h2.1, h2.2, h3⟩
        simp [this]
      · simp [decide_eq_true h1, decide_eq_false h2]
    · simp [decide_eq_false h1]
def handS (c : TCounter) (i k d u : Int) : TCounter × Int :=
  if (moveS c.Down i k d).2 = 0 then (if (moveS c.Up i k u).2 = 0 then ({ c with Down := (moveS c.Down i k d).1, Up := (moveS c.Up i k u).1 }, 0) else (default, (moveS c.Up i k u).2)) else (default, (moveS c.Down i k d).2)
theorem counter_Hand_eq (c : TCounter) (i k d u : Int) : counter_Hand c i k d u = some (handS c i k d u) := by
  unfold counter_Hand counter_both_Hand_1_Hand_2_Hand_3 counter_Hand_1 counter_Hand_2 counter_Hand_3 handS
  simp only [rights_Move_eq, counter_done_eq, Option.bind, letM_eq]
  by_cases h : (moveS c.Down i k d).2 = 0
  · rw [if_neg (by simp [h]), if_pos h]
    by_cases h2 : (moveS c.Up i k u).2 = 0
    · rw [if_pos (by simp [h2]), if_pos h2]; simp [h2]
    · rw [if_neg (by simp [h2]), if_neg h2]; simp [h2]
  · rw [if_pos (by simp [h]), if_neg h]; simp [h]
theorem neg_wr {n : Int} (h : -1099511627776 ≤ n) (h2 : n < 0) : wr .i64 (0 - n) = -n := by rw [wr_id (by omega)]; omega
def addF (f : TField) (k n : Int) : TField × Int :=
  if f.Kind = 1 then (if 0 ≤ n then withS f (incS f.Counter k n) else if n < -1099511627776 then (default, 8) else if (looseS f k).1 < -n then (default, 8) else withS f (decS f.Counter k (-n))) else (default, 17)
theorem withS_eta (f : TField) (c : TCounter × Int) : withS f (c.1, c.2) = withS f c := rfl
theorem field_Add_eq (f : TField) (k n : Int) (hh : f.Holds.length ≤ 1000000000) : field_Add f k n = some (addF f k n) := by
  unfold field_Add addF
  have h0 : f.Holds.length ≤ 1000000000000 := by omega
  simp only [counter_Inc_eq, counter_Dec_eq, field_changed_eq _ _ _ h0, field_lacks_eq _ _ _ h0, num_Is_eq, gd_nb, Option.bind, letM_eq, zeroF, withS_eta, lacksS]
  by_cases hk : f.Kind = 1
  · simp only [hk, decide_true, if_true, Bool.not_true, Bool.false_eq_true, if_false]
    by_cases h1 : 0 ≤ n
    · rw [if_pos (by simp [h1]), if_pos h1]
    · rw [if_neg (by simpa using h1), if_neg h1]
      by_cases h2 : n < -1099511627776
      · have hN : ¬ IsN n := by unfold IsN; omega
        rw [if_pos (by simp [hN]), if_pos h2]
      · have hN : IsN n := by unfold IsN; omega
        rw [if_neg (by simp [hN]), if_neg h2, neg_wr (by omega) (by omega)]
        by_cases h3 : (looseS f k).1 < -n
        · simp [h3]
        · simp [h3]
  · simp only [hk, decide_false, if_false, Bool.not_false, if_true, Bool.false_and, Bool.false_eq_true]
    by_cases h1 : 0 ≤ n
    · rw [if_pos (by simp [h1])]
    · rw [if_neg (by simpa using h1)]; rfl
def handF (f : TField) (i k d u : Int) : TField × Int := if f.Kind = 1 then (if (looseS f i).1 < d then (default, 8) else withS f (handS f.Counter i k d u)) else (default, 17)
theorem field_Hand_eq (f : TField) (i k d u : Int) (hh : f.Holds.length ≤ 1000000000) : field_Hand f i k d u = some (handF f i k d u) := by
  unfold field_Hand handF
  have h0 : f.Holds.length ≤ 1000000000000 := by omega
  simp only [counter_Hand_eq, field_changed_eq _ _ _ h0, field_lacks_eq _ _ _ h0, Option.bind, letM_eq, zeroF, withS_eta, lacksS]
  by_cases hk : f.Kind = 1
  · by_cases h3 : (looseS f i).1 < d <;> simp [hk, h3]
  · simp [hk]
def writeL (l : TLock) (k v : Int) : TLock × Int := if k = l.Holder then (if (addS l.Ver 1).2 = 0 ∧ IsN v then ({ l with Ver := (addS l.Ver 1).1, Value := v }, 0) else (default, 2)) else (default, 9)
theorem lock_Write_eq (l : TLock) (k v : Int) : lock_Write l k v = some (writeL l k v) := by
  unfold lock_Write writeL
  simp only [num_Add_eq, num_Is_eq, gd_nb, Option.bind, letM_eq, zeroLk]
  by_cases h : k = l.Holder
  · by_cases h2 : (addS l.Ver 1).2 = 0 <;> by_cases h3 : IsN v <;> simp [h, h2, h3]
  · simp [h]
def passL (l : TLock) (k to : Int) : TLock × Int := if k = l.Holder then (if 0 ≤ to ∧ to < 16 then (if (addS l.Seq 1).2 = 0 then (⟨(addS l.Seq 1).1, 0, to, l.Value⟩, 0) else (default, 2)) else (default, 1)) else (default, 9)
theorem lock_Pass_eq (l : TLock) (k to : Int) : lock_Pass l k to = some (passL l k to) := by
  have hi : lock_is to = some (decide (0 ≤ to ∧ to < 16)) := sd (by simp)
  unfold lock_Pass passL
  simp only [num_Add_eq, hi, Option.bind, letM_eq, zeroLk]
  by_cases h : k = l.Holder
  · rw [if_neg (by simp [h]), if_pos h]
    by_cases h2 : 0 ≤ to ∧ to < 16
    · rw [if_neg (by rw [decide_eq_true h2]; decide), if_pos h2]
      by_cases h3 : (addS l.Seq 1).2 = 0
      · simp [h3]
      · simp [h3, addS_err _ _ h3]
    · rw [if_pos (by rw [decide_eq_false h2]; rfl), if_neg h2]
  · simp [h]
def lockF (f : TField) (l : TLock × Int) : TField × Int := if f.Kind = 2 then (if l.2 = 0 then ({ f with Lock := l.1 }, 0) else (default, l.2)) else (default, 17)
theorem field_Write_eq (f : TField) (k v : Int) (hh : f.Holds.length ≤ 1000000000) : field_Write f k v = some (lockF f (writeL f.Lock k v)) := by
  unfold field_Write field_locked_Write_1 field_Write_1 lockF
  simp only [lock_Write_eq, Option.bind, letM_eq, zeroF]
  rw [field_done_eq' _ _ (by simp only; omega)]
  by_cases h : f.Kind = 2
  · by_cases h2 : (writeL f.Lock k v).2 = 0 <;> simp [h, h2]
  · simp [h]
theorem field_Pass_eq (f : TField) (k v : Int) (hh : f.Holds.length ≤ 1000000000) : field_Pass f k v = some (lockF f (passL f.Lock k v)) := by
  unfold field_Pass field_locked_Pass_1 field_Pass_1 lockF
  simp only [lock_Pass_eq, Option.bind, letM_eq, zeroF]
  rw [field_done_eq' _ _ (by simp only; omega)]
  by_cases h : f.Kind = 2
  · by_cases h2 : (passL f.Lock k v).2 = 0 <;> simp [h, h2]
  · simp [h]
end Go.Av
namespace Go.Av
set_option linter.unusedSectionVars false
set_option linter.unusedVariables false
set_option linter.unusedSimpArgs false

theorem ResS_Rts {l : List THold} {k a d : Int} (h : (ResS l k a d).2.2 = 0) : Rts (ResS l k a d).1 := by
  unfold ResS at h ⊢
  split
  · rename_i h1
    rw [if_pos h1] at h
    split
    · rename_i h2; rw [if_pos h2] at h; cases h
    · rename_i h2; exact Rts_put h1.1 h1.2 (newH_off h1.1.1) h2
  · rename_i h1; rw [if_neg h1] at h; cases h
theorem addS_zero {a b : Int} (h : (addS a b).2 = 0) : IsN a ∧ IsN b ∧ IsN (a + b) ∧ addS a b = (a + b, 0) := by
  unfold addS at h ⊢
  by_cases hc : IsN a ∧ IsN b ∧ IsN (a + b)
  · rw [if_pos hc]; exact ⟨hc.1, hc.2.1, hc.2.2, rfl⟩
  · rw [if_neg hc] at h; cases h
end Go.Av
namespace Go.Av
set_option linter.unusedSectionVars false
set_option linter.unusedVariables false
set_option linter.unusedSimpArgs false

theorem vget_set {α : Type} {n : Nat} (v : Vector α n) (i : Nat) (hi : i < n) (x : α) (k : Fin n) : (v.set i x hi).get k = if i = k.val then x else v.get k := by
  show (v.set i x hi)[k.val] = _
  rw [Vector.getElem_set]; rfl
theorem vext {α : Type} {n : Nat} {a b : Vector α n} (h : ∀ k : Fin n, a.get k = b.get k) : a = b := Vector.ext fun i hi => h ⟨i, hi⟩
theorem vofn {α : Type} {n : Nat} (f : Fin n → α) (k : Fin n) : (Vector.ofFn f).get k = f k := by
  show (Vector.ofFn f)[k.val] = _
  rw [Vector.getElem_ofFn]
/-- The first ones are done. -/
def partV {α : Type} {n : Nat} (f : Fin n → α) (v : Vector α n) (i : Nat) : Vector α n := Vector.ofFn fun k => if k.val < i then f k else v.get k
theorem partV_zero {α : Type} {n : Nat} (f : Fin n → α) (v : Vector α n) : partV f v 0 = v := vext fun k => by unfold partV; rw [vofn, if_neg (by omega)]
theorem partV_full {α : Type} {n : Nat} (f : Fin n → α) (v : Vector α n) : partV f v n = Vector.ofFn f := vext fun k => by unfold partV; rw [vofn, vofn, if_pos k.2]
theorem partV_get {α : Type} {n : Nat} (f : Fin n → α) (v : Vector α n) (i : Nat) (hi : i < n) : (partV f v i).get ⟨i, hi⟩ = v.get ⟨i, hi⟩ := by unfold partV; rw [vofn, if_neg (by simp)]
theorem partV_set {α : Type} {n : Nat} (f : Fin n → α) (v : Vector α n) (i : Nat) (hi : i < n) : (partV f v i).set i (f ⟨i, hi⟩) hi = partV f v (i + 1) := vext fun k => by
  rw [vget_set]
  unfold partV
  rw [vofn, vofn]
  by_cases h : i = k.val
  · subst h; rw [if_pos rfl, if_pos (by omega)]
  · rw [if_neg h]
    by_cases h2 : k.val < i
    · rw [if_pos h2, if_pos (by omega)]
    · rw [if_neg h2, if_neg (by omega)]

def joinV (a b : Vector Int 16) : Vector Int 16 := Vector.ofFn fun k => max (a.get k) (b.get k)
theorem vec_Join_eq (a b : Vector Int 16) : vec_Join a b = some (joinV a b) := by
  unfold vec_Join
  rw [loopM_eq (q := joinV a b) (fun i s => s = ((i : Int), partV (fun k => max (a.get k) (b.get k)) a i)) 16 (by omega) ?_ ?_ (by rw [partV_zero]; rfl)]
  · rfl
  · rintro i s hi rfl
    refine .inl ⟨_, ?_, rfl⟩
    simp only [vec_Join_L1, fix_of hi, letM_eq, Option.bind, partV_get _ _ _ hi, wr_succ (show i < 1000000000000000 by omega)]
    rw [if_pos (by simp; omega), partV_set (fun k => max (a.get k) (b.get k)) a i hi]
  · rintro s rfl
    simp only [vec_Join_L1]
    rw [if_neg (by simp), partV_full]; rfl
def joinR (a b : TRights) : TRights := ⟨joinV a.Given b.Given, joinV a.Used b.Used, Vector.ofFn fun k => joinV (a.Moved.get k) (b.Moved.get k)⟩
theorem rights_Join_eq (a b : TRights) : rights_Join a b = some (joinR a b) := by
  unfold rights_Join rights_Join_1 rights_Join_1_2
  simp only [vec_Join_eq, letM_eq, Option.bind]
  rw [loopM_eq (q := joinR a b) (fun i s => s = ((i : Int), (⟨joinV a.Given b.Given, joinV a.Used b.Used, partV (fun k => joinV (a.Moved.get k) (b.Moved.get k)) a.Moved i⟩ : TRights))) 16 (by omega) ?_ ?_ (by rw [partV_zero]; rfl)]
  · rintro i s hi rfl
    refine .inl ⟨_, ?_, rfl⟩
    simp only [rights_Join_L1, rights_Join_1_3, vec_Join_eq, fix_of hi, letM_eq, Option.bind, partV_get _ _ _ hi, wr_succ (show i < 1000000000000000 by omega)]
    rw [if_pos (by simp; omega), partV_set (fun k => joinV (a.Moved.get k) (b.Moved.get k)) a.Moved i hi]
  · rintro s rfl
    simp only [rights_Join_L1]
    rw [if_neg (by simp), partV_full]; rfl
def joinC (a b : TCounter) : TCounter × Int := if a.Init = b.Init ∧ a.Low = b.Low ∧ a.High = b.High then ({ a with Down := joinR a.Down b.Down, Up := joinR a.Up b.Up }, 0) else (default, 1)
theorem counter_Join_eq (a b : TCounter) : counter_Join a b = some (joinC a b) := by
  unfold counter_Join joinC
  simp only [rights_Join_eq, letM_eq, Option.bind]
  by_cases h : a.Init = b.Init ∧ a.Low = b.Low ∧ a.High = b.High
  · rw [if_neg (by simp [h.1, h.2.1, h.2.2]), if_pos h]
  · rw [if_pos, if_neg h]
    · rfl
    · simp only [Bool.or_eq_true, Bool.not_eq_true', decide_eq_false_iff_not]
      exact Classical.byContradiction fun k => h (by simp only [not_or, Classical.not_not] at k; exact ⟨k.1.1, k.1.2, k.2⟩)
def LLt (a b : TLock) : Prop := a.Seq < b.Seq ∨ (a.Seq = b.Seq ∧ (a.Ver < b.Ver ∨ (a.Ver = b.Ver ∧ (a.Holder < b.Holder ∨ (a.Holder = b.Holder ∧ a.Value < b.Value)))))
instance (a b : TLock) : Decidable (LLt a b) := by unfold LLt; infer_instance
def joinL (a b : TLock) : TLock := if LLt a b then b else a
def lockCmp (a b : TLock) : Int := if a.Seq = b.Seq then (if a.Ver = b.Ver then (if a.Holder = b.Holder then (if a.Value = b.Value then 0 else if b.Value < a.Value then 1 else -1) else if b.Holder < a.Holder then 1 else -1) else if b.Ver < a.Ver then 1 else -1) else if b.Seq < a.Seq then 1 else -1
theorem lock_Compare_eq (a b : TLock) : lock_Compare a b = some (lockCmp a b) := by
  have e0 : fix_ 2 0 = some (0 : Fin 2) := rfl
  have e1 : fix_ 2 1 = some (1 : Fin 2) := rfl
  have f0 : fix_ 4 0 = some (0 : Fin 4) := rfl
  have f1 : fix_ 4 1 = some (1 : Fin 4) := rfl
  have f2 : fix_ 4 2 = some (2 : Fin 4) := rfl
  have f3 : fix_ 4 3 = some (3 : Fin 4) := rfl
  have w0 : wr .i64 1 = 1 := by decide
  have w1 : wr .i64 2 = 2 := by decide
  have w2 : wr .i64 3 = 3 := by decide
  have w3 : wr .i64 4 = 4 := by decide
  have v0 : ∀ x y : Int, (#v[x, y] : Vector Int 2).get 0 = x := fun _ _ => rfl
  have v1 : ∀ x y : Int, (#v[x, y] : Vector Int 2).get 1 = y := fun _ _ => rfl
  have u0 : ∀ x y z t : Vector Int 2, (#v[x, y, z, t] : Vector (Vector Int 2) 4).get 0 = x := fun _ _ _ _ => rfl
  have u1 : ∀ x y z t : Vector Int 2, (#v[x, y, z, t] : Vector (Vector Int 2) 4).get 1 = y := fun _ _ _ _ => rfl
  have u2 : ∀ x y z t : Vector Int 2, (#v[x, y, z, t] : Vector (Vector Int 2) 4).get 2 = z := fun _ _ _ _ => rfl
  have u3 : ∀ x y z t : Vector Int 2, (#v[x, y, z, t] : Vector (Vector Int 2) 4).get 3 = t := fun _ _ _ _ => rfl
  have h0 : lock_Compare_L1 a b 0 = if a.Seq = b.Seq then some (.inl 1) else if b.Seq < a.Seq then some (.inr (.inr 1)) else some (.inr (.inr (-1))) := by
    unfold lock_Compare_L1; simp [e0, e1, f0, letM, w0, v0, v1, u0]
  have h1 : lock_Compare_L1 a b 1 = if a.Ver = b.Ver then some (.inl 2) else if b.Ver < a.Ver then some (.inr (.inr 1)) else some (.inr (.inr (-1))) := by
    unfold lock_Compare_L1; simp [e0, e1, f1, letM, w1, v0, v1, u1]
  have h2 : lock_Compare_L1 a b 2 = if a.Holder = b.Holder then some (.inl 3) else if b.Holder < a.Holder then some (.inr (.inr 1)) else some (.inr (.inr (-1))) := by
    unfold lock_Compare_L1; simp [e0, e1, f2, letM, w2, v0, v1, u2]
  have h3 : lock_Compare_L1 a b 3 = if a.Value = b.Value then some (.inl 4) else if b.Value < a.Value then some (.inr (.inr 1)) else some (.inr (.inr (-1))) := by
    unfold lock_Compare_L1; simp [e0, e1, f3, letM, w3, v0, v1, u3]
  have h4 : lock_Compare_L1 a b 4 = some (.inr (.inl ())) := by unfold lock_Compare_L1; simp
  unfold lock_Compare lockCmp
  have hf : fuel = 1180591620717411303419 + 5 := rfl
  rw [hf]
  by_cases c0 : a.Seq = b.Seq
  · by_cases c1 : a.Ver = b.Ver
    · by_cases c2 : a.Holder = b.Holder
      · by_cases c3 : a.Value = b.Value
        · simp [loopM, h0, h1, h2, h3, h4, c0, c1, c2, c3, onS]
        · by_cases d : b.Value < a.Value <;> simp [loopM, h0, h1, h2, h3, c0, c1, c2, c3, d, onS]
      · by_cases d : b.Holder < a.Holder <;> simp [loopM, h0, h1, h2, c0, c1, c2, d, onS]
    · by_cases d : b.Ver < a.Ver <;> simp [loopM, h0, h1, c0, c1, d, onS]
  · by_cases d : b.Seq < a.Seq <;> simp [loopM, h0, c0, d, onS]
theorem lockCmp_lt (a b : TLock) : lockCmp a b < 0 ↔ LLt a b := by
  unfold lockCmp LLt
  repeat' split
  all_goals omega
theorem lock_Join_eq (a b : TLock) : lock_Join a b = some (joinL a b) := by
  unfold lock_Join joinL
  rw [lock_Compare_eq]
  simp only [Option.bind]
  by_cases h : LLt a b
  · rw [if_pos (by simpa using (lockCmp_lt a b).2 h), if_pos h]
  · rw [if_neg (by simpa using fun k => h ((lockCmp_lt a b).1 k)), if_neg h]
def joinF (a b : TField) : TField × Int :=
  if a.Name = b.Name ∧ a.Kind = b.Kind ∧ a.Epoch = b.Epoch then
    (if (joinC a.Counter b.Counter).2 = 0 then (if (JS a.Holds b.Holds).2 = 0 then ({ a with Counter := (joinC a.Counter b.Counter).1, Lock := joinL a.Lock b.Lock, Holds := (JS a.Holds b.Holds).1 }, 0) else (default, (JS a.Holds b.Holds).2)) else (default, (joinC a.Counter b.Counter).2))
  else (default, 1)
theorem field_Join_eq (a b : TField) (ha : a.Holds.length ≤ 1000000) (hb : b.Holds.length ≤ 1000000) : field_Join a b = some (joinF a b) := by
  unfold field_Join joinF
  simp only [counter_Join_eq, hold_Join_eq _ _ ha hb, lock_Join_eq, letM_eq, Option.bind, zeroF]
  by_cases h : a.Name = b.Name ∧ a.Kind = b.Kind ∧ a.Epoch = b.Epoch
  · rw [if_neg (by simp [h.1, h.2.1, h.2.2]), if_pos h]
    by_cases h2 : (joinC a.Counter b.Counter).2 = 0
    · rw [if_neg (by simp [h2]), if_pos h2]
      by_cases h3 : (JS a.Holds b.Holds).2 = 0
      · rw [if_neg (by simp [h3]), if_pos h3]
      · rw [if_pos (by simp [h3]), if_neg h3]
    · rw [if_pos (by simp [h2]), if_neg h2]
  · rw [if_neg h, if_pos]
    simp only [Bool.or_eq_true, Bool.not_eq_true', decide_eq_false_iff_not]
    exact Classical.byContradiction fun k => h (by simp only [not_or, Classical.not_not] at k; exact ⟨k.1.1, k.1.2, k.2⟩)
theorem joinF_zero {a b : TField} (h : (joinF a b).2 = 0) : (a.Name = b.Name ∧ a.Kind = b.Kind ∧ a.Epoch = b.Epoch) ∧ (joinC a.Counter b.Counter).2 = 0 ∧ (JS a.Holds b.Holds).2 = 0 ∧ joinF a b = ({ a with Counter := (joinC a.Counter b.Counter).1, Lock := joinL a.Lock b.Lock, Holds := (JS a.Holds b.Holds).1 }, 0) := by
  unfold joinF at h ⊢
  by_cases h1 : a.Name = b.Name ∧ a.Kind = b.Kind ∧ a.Epoch = b.Epoch
  · rw [if_pos h1] at h ⊢
    by_cases h2 : (joinC a.Counter b.Counter).2 = 0
    · rw [if_pos h2] at h ⊢
      by_cases h3 : (JS a.Holds b.Holds).2 = 0
      · rw [if_pos h3]; exact ⟨h1, h2, h3, rfl⟩
      · rw [if_neg h3] at h; exact (h3 h).elim
    · rw [if_neg h2] at h; exact (h2 h).elim
  · rw [if_neg h1] at h; cases h
end Go.Av
namespace Go.Av
set_option linter.unusedSectionVars false
set_option linter.unusedVariables false
set_option linter.unusedSimpArgs false

def SaysP (v : Int) (f : TField) : Prop := FOk f ∧ (1 ≤ v ∧ v ≤ 3) ∧ (v = 3 ∨ f.Epoch = 0) ∧ (1 < v ∨ f.Holds = [])
instance (v : Int) (f : TField) : Decidable (SaysP v f) := by unfold SaysP; infer_instance
end Go.Av
namespace Go.Av
set_option linter.unusedSectionVars false
set_option linter.unusedVariables false
set_option linter.unusedSimpArgs false

def RN (a b : TField) : Prop := bLs a.Name b.Name = true
instance (a b : TField) : Decidable (RN a b) := by unfold RN; infer_instance
theorem RN.trans {a b c : TField} (h : RN a b) (k : RN b c) : RN a c := bLs_trans h k
def FsOk (l : List TField) : Prop := (∀ f ∈ l, FOk f) ∧ l.Pairwise RN ∧ l.length ≤ 4
instance (l : List TField) : Decidable (FsOk l) := by unfold FsOk; infer_instance
/-- Fields that may be gone through. -/
def Small (l : List TField) : Prop := l.length ≤ 1000 ∧ ∀ f ∈ l, f.Name.size ≤ 1000000 ∧ f.Holds.length ≤ 100000
theorem Small.at {l : List TField} (h : Small l) (i : Nat) : (l.getD i default).Name.size ≤ 1000000 ∧ (l.getD i default).Holds.length ≤ 100000 := by
  by_cases hi : i < l.length
  · rw [show l.getD i default = l[i] by simp [List.getD, hi]]; exact h.2 _ (List.getElem_mem hi)
  · rw [show l.getD i default = default by simp [List.getD, Nat.le_of_not_lt hi]]; decide
def LinkF (l : List TField) (i : Nat) : Prop := FOk (l.getD i default) ∧ (0 < i → RN (l.getD (i - 1) default) (l.getD i default))
instance (l : List TField) : DecidablePred (LinkF l) := fun i => by unfold LinkF; infer_instance
theorem obs {α β : Type} (x : α) (f : α → Option β) : Option.bind (some x) f = f x := rfl
end Go.Av
namespace Go.Av
set_option linter.unusedSectionVars false
set_option linter.unusedVariables false
set_option linter.unusedSimpArgs false

def madeOk (e v lo hi : Int) : Prop := IsN e ∧ IsN v ∧ IsN lo ∧ IsN hi ∧ IsN (hi - lo)
instance (e v lo hi : Int) : Decidable (madeOk e v lo hi) := by unfold madeOk; infer_instance
end Go.Av
namespace Go.Av
set_option linter.unusedSectionVars false
set_option linter.unusedVariables false
set_option linter.unusedSimpArgs false

/-- What is made of a field. -/
structure MadeOf (f : TField) (m : TField) : Prop where
  ok : FOk m
  holds : m.Holds = []
  epoch : f.Epoch < m.Epoch
  view : (viewS m).2 = 0
end Go.Av
namespace Go.Av
set_option linter.unusedSectionVars false
set_option linter.unusedVariables false
set_option linter.unusedSimpArgs false

theorem sum_bnd : ∀ (l : List Int), (∀ x ∈ l, -1000000 ≤ x ∧ x ≤ 1000000) → -(1000000 * (l.length : Int)) ≤ l.sum ∧ l.sum ≤ 1000000 * (l.length : Int)
  | [], _ => by simp
  | x :: t, h => by
    have h1 := h x (by simp)
    have h2 := sum_bnd t fun y hy => h y (by simp [hy])
    simp only [List.sum_cons, List.length_cons]
    omega
theorem sumO_small : ∀ (l : List Int) (n : Int), (∀ x ∈ l, -1000000 ≤ x ∧ x ≤ 1000000) → -1099511627776 ≤ n - 1000000 * (l.length : Int) → n + 1000000 * (l.length : Int) ≤ 1099511627776 → sumO n l = some (n + l.sum)
  | [], n, _, _, _ => by simp [sumO]
  | x :: t, n, h, h1, h2 => by
    have hx := h x (by simp)
    simp only [List.length_cons] at h1 h2
    have e : addS n x = (n + x, 0) := by unfold addS; rw [if_pos ⟨by unfold IsN; omega, by unfold IsN; omega, by unfold IsN; omega⟩]
    rw [sumO, e, if_pos rfl, sumO_small t (n + x) (fun y hy => h y (by simp [hy])) (by omega) (by omega), List.sum_cons]
    congr 1; omega
theorem sumS_small {l : List Int} (h : ∀ x ∈ l, -1000000 ≤ x ∧ x ≤ 1000000) (hl : l.length ≤ 1000) : sumS l = (l.sum, 0) := by
  unfold sumS
  rw [sumO_small l 0 h (by omega) (by omega)]
  simp
theorem sum_upd (f g : Nat → Int) (k : Nat) (h : ∀ i, i ≠ k → f i = g i) : ∀ n : Nat, ((List.range n).map f).sum = ((List.range n).map g).sum + if k < n then f k - g k else 0
  | 0 => by simp
  | n + 1 => by
    rw [List.range_succ, List.map_append, List.map_append, List.sum_append, List.sum_append, sum_upd f g k h n]
    simp only [List.map_cons, List.map_nil, List.sum_cons, List.sum_nil]
    by_cases e : n = k
    · subst e
      rw [if_neg (by omega), if_pos (by omega)]; omega
    · rw [h n e]
      by_cases c : k < n
      · rw [if_pos c, if_pos (by omega)]; omega
      · rw [if_neg c, if_neg (by omega)]; omega

def VB (b : Int) (v : Vector Int 16) : Prop := ∀ i, 0 ≤ at16 v i ∧ at16 v i ≤ b
structure RB (b : Int) (r : TRights) : Prop where
  given : VB b r.Given
  used : VB b r.Used
  moved : ∀ i, VB b (rowAt r i)
theorem VB.mono {b c : Int} {v : Vector Int 16} (h : VB b v) (hc : b ≤ c) : VB c v := fun i => ⟨(h i).1, by have := (h i).2; omega⟩
theorem RB.mono {b c : Int} {r : TRights} (h : RB b r) (hc : b ≤ c) : RB c r := ⟨h.given.mono hc, h.used.mono hc, fun i => (h.moved i).mono hc⟩
theorem at16_set (v : Vector Int 16) {k : Nat} (hk : k < 16) (x : Int) (i : Nat) : at16 (set16 v k x) i = if i = k then x else at16 v i := by
  rw [set16_of v hk]
  by_cases hi : i < 16
  · rw [at16_of _ hi, at16_of _ hi, vget_set]
    by_cases e : k = i
    · subst e; simp
    · rw [if_neg (show ¬ k = (⟨i, hi⟩ : Fin 16).val from e), if_neg (fun q => e q.symm)]
  · rw [if_neg (by omega)]
    unfold at16
    rw [dif_neg hi, dif_neg hi]
theorem zero16 : ∀ j : Fin 16, (default : Vector Int 16).get j = 0 := by decide
theorem at16_zero (i : Nat) : at16 (default : Vector Int 16) i = 0 := by
  by_cases hi : i < 16
  · rw [at16_of _ hi]
    exact zero16 _
  · unfold at16; rw [dif_neg hi]
theorem VB_zero {b : Int} (h : 0 ≤ b) : VB b (default : Vector Int 16) := fun i => by rw [at16_zero]; omega
theorem rowAt_set (r : TRights) {k : Nat} (hk : k < 16) (v : Vector Int 16) (i : Nat) : rowAt { r with Moved := setRow r.Moved k v } i = if i = k then v else rowAt r i := by
  by_cases hi : i < 16
  · rw [rowAt_of _ hi, rowAt_of _ hi]
    show (setRow r.Moved k v).get ⟨i, hi⟩ = _
    rw [setRow_of _ hk, vget_set]
    by_cases e : k = i
    · subst e; simp
    · rw [if_neg (show ¬ k = (⟨i, hi⟩ : Fin 16).val from e), if_neg (fun q => e q.symm)]
  · rw [if_neg (by omega)]
    unfold rowAt
    rw [dif_neg hi, dif_neg hi]
theorem growS_zero {v : Vector Int 16} {k n : Int} (h : (growS v k n).2 = 0) : 0 ≤ k ∧ k < 16 ∧ 0 ≤ n ∧ (growS v k n).1 = set16 v k.toNat (at16 v k.toNat + n) := by
  unfold growS at h ⊢
  by_cases c : 0 ≤ k ∧ k < 16 ∧ 0 ≤ n
  · rw [if_pos c] at h ⊢
    by_cases d : (addS (at16 v k.toNat) n).2 = 0
    · rw [if_pos d, (addS_zero d).2.2.2]; exact ⟨c.1, c.2.1, c.2.2, rfl⟩
    · rw [if_neg d] at h; exact (d h).elim
  · rw [if_neg c] at h; cases h
theorem growS_VB {b : Int} {v : Vector Int 16} {k n : Int} (hv : VB b v) (hn : n ≤ 3000) (h : (growS v k n).2 = 0) : VB (b + 3000) (growS v k n).1 := by
  obtain ⟨h1, h2, h3, h4⟩ := growS_zero h
  rw [h4]
  intro i
  rw [at16_set v (by omega)]
  by_cases e : i = k.toNat
  · rw [if_pos e]; have := hv k.toNat; omega
  · rw [if_neg e]; have := hv i; omega
theorem giveS_RB {b : Int} {r : TRights} {k n : Int} (hr : RB b r) (hn : n ≤ 3000) (h : (giveS r k n).2 = 0) : RB (b + 3000) (giveS r k n).1 := by
  unfold giveS at h ⊢
  by_cases c : (growS r.Given k n).2 = 0
  · rw [if_pos c]; exact ⟨growS_VB hr.given hn c, hr.used.mono (by omega), fun i => (hr.moved i).mono (by omega)⟩
  · rw [if_neg c] at h; exact (c h).elim
theorem useS_zero {r : TRights} {k n : Int} (h : (useS r k n).2 = 0) : enoughS r k n = 0 ∧ (growS r.Used k n).2 = 0 ∧ (useS r k n).1 = { r with Used := (growS r.Used k n).1 } := by
  unfold useS at h ⊢
  by_cases c : enoughS r k n = 0
  · rw [if_pos c] at h ⊢
    by_cases d : (growS r.Used k n).2 = 0
    · rw [if_pos d]; exact ⟨c, d, rfl⟩
    · rw [if_neg d] at h; exact (d h).elim
  · rw [if_neg c] at h; exact (c h).elim
theorem useS_RB {b : Int} {r : TRights} {k n : Int} (hr : RB b r) (hn : n ≤ 3000) (h : (useS r k n).2 = 0) : RB (b + 3000) (useS r k n).1 := by
  obtain ⟨h1, h2, h3⟩ := useS_zero h
  rw [h3]
  exact ⟨hr.given.mono (by omega), growS_VB hr.used hn h2, fun i => (hr.moved i).mono (by omega)⟩
theorem moveS_RB {b : Int} {r : TRights} {i k n : Int} (hr : RB b r) (hn : n ≤ 3000) (h : (moveS r i k n).2 = 0) : RB (b + 3000) (moveS r i k n).1 := by
  unfold moveS at h ⊢
  by_cases c : 0 ≤ i ∧ i < 16 ∧ 0 ≤ k ∧ k < 16 ∧ i ≠ k
  · rw [if_pos c] at h ⊢
    by_cases d : enoughS r i n = 0
    · rw [if_pos d] at h ⊢
      by_cases e : (growS (rowAt r i.toNat) k n).2 = 0
      · rw [if_pos e]
        refine ⟨hr.given.mono (by omega), hr.used.mono (by omega), fun j => ?_⟩
        rw [rowAt_set r (by omega)]
        by_cases q : j = i.toNat
        · rw [if_pos q]; exact growS_VB (hr.moved _) hn e
        · rw [if_neg q]; exact (hr.moved j).mono (by omega)
      · rw [if_neg e] at h; exact (e h).elim
    · rw [if_neg d] at h; exact (d h).elim
  · rw [if_neg c] at h; cases h
structure CB (b : Int) (c : TCounter) : Prop where
  init : -1000 ≤ c.Init ∧ c.Init ≤ 1000
  down : RB b c.Down
  up : RB b c.Up
theorem CB.mono {b d : Int} {c : TCounter} (h : CB b c) (hd : b ≤ d) : CB d c := ⟨h.init, h.down.mono hd, h.up.mono hd⟩
theorem decS_CB {b : Int} {c : TCounter} {k n : Int} (hc : CB b c) (hn : n ≤ 3000) (h : (decS c k n).2 = 0) : CB (b + 3000) (decS c k n).1 := by
  unfold decS at h ⊢
  by_cases d : (useS c.Down k n).2 = 0
  · rw [if_pos d] at h ⊢
    by_cases e : (giveS c.Up k n).2 = 0
    · rw [if_pos e]; exact ⟨hc.init, useS_RB hc.down hn d, giveS_RB hc.up hn e⟩
    · rw [if_neg e] at h; exact (e h).elim
  · rw [if_neg d] at h; exact (d h).elim
theorem incS_CB {b : Int} {c : TCounter} {k n : Int} (hc : CB b c) (hn : n ≤ 3000) (h : (incS c k n).2 = 0) : CB (b + 3000) (incS c k n).1 := by
  unfold incS at h ⊢
  by_cases d : (useS c.Up k n).2 = 0
  · rw [if_pos d] at h ⊢
    by_cases e : (giveS c.Down k n).2 = 0
    · rw [if_pos e]; exact ⟨hc.init, giveS_RB hc.down hn e, useS_RB hc.up hn d⟩
    · rw [if_neg e] at h; exact (e h).elim
  · rw [if_neg d] at h; exact (d h).elim
theorem handS_CB {b : Int} {c : TCounter} {i k d u : Int} (hc : CB b c) (hd : d ≤ 3000) (hu : u ≤ 3000) (h : (handS c i k d u).2 = 0) : CB (b + 3000) (handS c i k d u).1 := by
  unfold handS at h ⊢
  by_cases e : (moveS c.Down i k d).2 = 0
  · rw [if_pos e] at h ⊢
    by_cases q : (moveS c.Up i k u).2 = 0
    · rw [if_pos q]; exact ⟨hc.init, moveS_RB hc.down hd e, moveS_RB hc.up hu q⟩
    · rw [if_neg q] at h; exact (q h).elim
  · rw [if_neg e] at h; exact (e h).elim
theorem at16_join (a c : Vector Int 16) (i : Nat) : at16 (joinV a c) i = max (at16 a i) (at16 c i) := by
  by_cases hi : i < 16
  · rw [at16_of _ hi, at16_of _ hi, at16_of _ hi]; unfold joinV; rw [vofn]
  · unfold at16; rw [dif_neg hi, dif_neg hi, dif_neg hi]; rfl
theorem joinV_VB {b : Int} {a c : Vector Int 16} (ha : VB b a) (hc : VB b c) : VB b (joinV a c) := fun i => by
  rw [at16_join]; have := ha i; have := hc i; omega
theorem rowAt_join (a c : TRights) (i : Nat) : rowAt (joinR a c) i = joinV (rowAt a i) (rowAt c i) := by
  by_cases hi : i < 16
  · rw [rowAt_of _ hi, rowAt_of _ hi, rowAt_of _ hi]
    show (Vector.ofFn fun k => joinV (a.Moved.get k) (c.Moved.get k)).get ⟨i, hi⟩ = _
    rw [vofn]
  · unfold rowAt; rw [dif_neg hi, dif_neg hi, dif_neg hi]
    exact vext fun k => by unfold joinV; rw [vofn]; omega
theorem joinR_RB {b : Int} {a c : TRights} (ha : RB b a) (hc : RB b c) : RB b (joinR a c) :=
  ⟨joinV_VB ha.given hc.given, joinV_VB ha.used hc.used, fun i => by rw [rowAt_join]; exact joinV_VB (ha.moved i) (hc.moved i)⟩
theorem joinC_CB {b : Int} {x y : TCounter} (hx : CB b x) (hy : CB b y) (h : (joinC x y).2 = 0) : CB b (joinC x y).1 := by
  unfold joinC at h ⊢
  by_cases c : x.Init = y.Init ∧ x.Low = y.Low ∧ x.High = y.High
  · rw [if_pos c]; exact ⟨hx.init, joinR_RB hx.down hy.down, joinR_RB hx.up hy.up⟩
  · rw [if_neg c] at h; cases h

/-- Holds that are small. -/
structure HB (u : Int) (l : List THold) : Prop where
  rts : Rts l
  few_ : ∀ h ∈ l, h.Amount ≤ 3000 ∧ h.Number ≤ u
theorem HB.mono {u w : Int} {l : List THold} (h : HB u l) (hu : u ≤ w) : HB w l := ⟨h.rts, fun x hx => ⟨(h.few_ x hx).1, by have := (h.few_ x hx).2; omega⟩⟩
theorem Rts_map {l : List THold} (g : THold → THold) (h : Rts l) (hg : ∀ x ∈ l, (g x).Replica = x.Replica ∧ (g x).Number = x.Number ∧ HOk (g x)) : Rts (l.map g) := by
  refine ⟨fun y hy => ?_, ?_, by rw [List.length_map]; exact h.2.2⟩
  · obtain ⟨x, hx, rfl⟩ := List.mem_map.1 hy
    exact (hg x hx).2.2
  · rw [List.pairwise_map]
    refine h.2.1.imp_of_mem fun {a b} ha hb hab => ?_
    unfold HLt at hab ⊢
    rw [(hg a ha).1, (hg a ha).2.1, (hg b hb).1, (hg b hb).2.1]; exact hab
theorem Exp_HB {u : Int} {l : List THold} (h : HB u l) (r t : Int) : HB u (Exp l r t).1 := by
  unfold Exp
  rw [if_pos h.rts]
  have e : ∀ x, (ex r t x).Replica = x.Replica ∧ (ex r t x).Number = x.Number ∧ (ex r t x).Amount = x.Amount ∧ (ex r t x).Due = x.Due ∧ ((ex r t x).State = x.State ∨ (ex r t x).State = 3) := fun x => by
    unfold ex; split <;> simp
  refine ⟨Rts_map _ h.rts fun x hx => ⟨(e x).1, (e x).2.1, ?_⟩, fun y hy => ?_⟩
  · have hk := h.rts.1 x hx
    obtain ⟨e1, e2, e3, e4, e5⟩ := e x
    unfold HOk at hk ⊢
    rw [e1, e2, e3, e4]
    refine ⟨hk.1, hk.2.1, hk.2.2.1, hk.2.2.2.1, hk.2.2.2.2.1, hk.2.2.2.2.2.1, ?_⟩
    rcases e5 with e5 | e5 <;> rw [e5] <;> omega
  · obtain ⟨x, hx, rfl⟩ := List.mem_map.1 hy
    rw [(e x).2.2.1, (e x).2.1]; exact h.few_ x hx
theorem EndS_HB {u : Int} {l : List THold} (h : HB u l) {r n st : Int} (h0 : (EndS l r n st).2.2 = 0) : HB u (EndS l r n st).1 ∧ (EndS l r n st).2.1 ≤ 3000 := by
  unfold EndS at h0 ⊢
  by_cases c : Rts l ∧ (st = 2 ∨ st = 3)
  · rw [if_pos c] at h0 ⊢
    cases hf : l.findIdx? (isK r n) with
    | none => rw [hf] at h0; cases h0
    | some i =>
      rw [hf] at h0
      simp only [] at h0 ⊢
      have hi := (List.findIdx?_eq_some_iff_getElem.1 hf).1
      have hmem : l.getD i default ∈ l := by rw [show l.getD i default = l[i] by simp [List.getD, hi]]; exact List.getElem_mem hi
      by_cases d : (l.getD i default).State = 1
      · rw [if_pos d]
        have hk := h.rts.1 _ hmem
        refine ⟨⟨⟨fun y hy => ?_, ?_, by rw [List.length_set]; exact h.rts.2.2⟩, fun y hy => ?_⟩, (h.few_ _ hmem).1⟩
        · rcases List.mem_or_eq_of_mem_set hy with hy | rfl
          · exact h.rts.1 y hy
          · unfold HOk at hk ⊢
            exact ⟨hk.1, hk.2.1, hk.2.2.1, hk.2.2.2.1, hk.2.2.2.2.1, hk.2.2.2.2.2.1, by simp only; omega, by simp only; omega⟩
        · have hp := List.pairwise_iff_getElem.1 h.rts.2.1
          rw [List.pairwise_iff_getElem]
          intro a b ha hb hab
          have ha' : a < l.length := by simpa using ha
          have hb' : b < l.length := by simpa using hb
          have key := hp a b ha' hb' hab
          have eg : l.getD i default = l[i] := by simp [List.getD, hi]
          simp only [List.getElem_set]
          unfold HLt at key ⊢
          by_cases q1 : i = a
          · subst q1
            by_cases q2 : i = b
            · omega
            · rw [if_pos rfl, if_neg q2]; rw [← eg] at key; exact key
          · rw [if_neg q1]
            by_cases q2 : i = b
            · subst q2; rw [if_pos rfl]; rw [← eg] at key; exact key
            · rw [if_neg q2]; exact key
        · rcases List.mem_or_eq_of_mem_set hy with hy | rfl
          · exact h.few_ y hy
          · exact (h.few_ _ hmem : (l.getD i default).Amount ≤ 3000 ∧ (l.getD i default).Number ≤ u)
      · rw [if_neg d] at h0; cases h0
  · rw [if_neg c] at h0; cases h0
theorem NextN_le {u : Int} {l : List THold} (r : Int) (hu : 0 ≤ u) (hu2 : u ≤ 1000000) (h : ∀ x ∈ l, 0 ≤ x.Number ∧ x.Number ≤ u) : NextN l r ≤ u + 1 := by
  unfold NextN
  have : ∀ (l : List THold) (s : Int), (∀ x ∈ l, 0 ≤ x.Number ∧ x.Number ≤ u) → s ≤ u + 1 → l.foldl (rstep r) s ≤ u + 1 := by
    intro l
    induction l with
    | nil => intro s _ hs; exact hs
    | cons x t ih =>
      intro s hx hs
      rw [List.foldl_cons]
      refine ih _ (fun y hy => hx y (by simp [hy])) ?_
      have hx0 := hx x (by simp)
      unfold rstep
      by_cases c : x.Replica = r
      · rw [if_pos c, wr_id (by omega)]; omega
      · rw [if_neg c]; exact hs
  exact this l 1 h (by omega)
theorem ResS_HB {u : Int} {l : List THold} (hu : 0 ≤ u) (hu2 : u ≤ 1000000) (h : HB u l) {r a d : Int} (ha : a ≤ 3000) (h0 : (ResS l r a d).2.2 = 0) : HB (u + 1) (ResS l r a d).1 := by
  refine ⟨ResS_Rts h0, fun y hy => ?_⟩
  unfold ResS at h0 hy
  by_cases c : Rts l ∧ HOk (newH l r a d)
  · rw [if_pos c] at h0 hy
    by_cases e : l.length = 16
    · rw [if_pos e] at h0; cases h0
    · rw [if_neg e] at hy
      rcases putS_mem.1 hy with rfl | hy
      · exact ⟨ha, NextN_le r hu hu2 fun x hx => ⟨by have := (h.rts.1 x hx).2.2.1; omega, (h.few_ x hx).2⟩⟩
      · have := h.few_ y hy; omega
  · rw [if_neg c] at h0; cases h0
theorem JS_HB {u : Int} {a b : List THold} (ha : HB u a) (hb : HB u b) (h0 : (JS a b).2 = 0) : HB u (JS a b).1 := by
  obtain ⟨_, _, _, m, hm, e, hl⟩ := JS_zero h0
  rw [e]
  refine ⟨hm, fun y hy => ?_⟩
  have hoff : m.Pairwise Off := hm.2.1.imp fun {x y} k => by unfold HLt at k; unfold Off; omega
  have hy2 : lookH m y.Replica y.Number = some y := (lookH_iff hoff).2 ⟨hy, rfl, rfl⟩
  rw [hl] at hy2
  cases c1 : lookH a y.Replica y.Number with
  | none =>
    rw [c1] at hy2
    exact hb.few_ y (look_mem hy2)
  | some x =>
    rw [c1] at hy2
    have hx := ha.few_ x (look_mem c1)
    cases c2 : lookH b y.Replica y.Number with
    | none => rw [c2] at hy2; simp only [jo, Option.some.injEq] at hy2; subst hy2; exact hx
    | some z => rw [c2] at hy2; simp only [jo, Option.some.injEq] at hy2; subst hy2; exact hx
/-- A counter's field that is small. -/
structure LI (b u : Int) (x : TField) : Prop where
  kind : x.Kind = 1
  cb : CB b x.Counter
  hb : HB u x.Holds
theorem LI.mono {b c u w : Int} {x : TField} (h : LI b u x) (hb : b ≤ c) (hu : u ≤ w) : LI c w x := ⟨h.kind, h.cb.mono hb, h.hb.mono hu⟩
theorem LI.len {b u : Int} {x : TField} (h : LI b u x) : x.Holds.length ≤ 1000000 := by have := h.hb.rts.2.2; omega
theorem withS_LI {b u : Int} {f : TField} {c : TCounter × Int} (hk : f.Kind = 1) (hh : HB u f.Holds) (hc : c.2 = 0 → CB b c.1) (h : (withS f c).2 = 0) : LI b u (withS f c).1 := by
  unfold withS at h ⊢
  by_cases d : c.2 = 0
  · rw [if_pos d]; exact ⟨hk, hc d, hh⟩
  · rw [if_neg d] at h; exact (d h).elim
theorem addF_LI {b u : Int} {f : TField} (hf : LI b u f) {k n : Int} (h1 : -3000 ≤ n) (h2 : n ≤ 3000) (h : (addF f k n).2 = 0) : LI (b + 3000) u (addF f k n).1 := by
  unfold addF at h ⊢
  rw [if_pos hf.kind] at h ⊢
  by_cases c : 0 ≤ n
  · rw [if_pos c] at h ⊢
    exact withS_LI hf.kind hf.hb (fun e => incS_CB hf.cb h2 e) h
  · rw [if_neg c, if_neg (by omega)] at h ⊢
    by_cases d : (looseS f k).1 < -n
    · rw [if_pos d] at h; cases h
    · rw [if_neg d] at h ⊢
      exact withS_LI hf.kind hf.hb (fun e => decS_CB hf.cb (by omega) e) h
theorem handF_LI {b u : Int} {f : TField} (hf : LI b u f) {i k d e : Int} (h1 : d ≤ 3000) (h2 : e ≤ 3000) (h : (handF f i k d e).2 = 0) : LI (b + 3000) u (handF f i k d e).1 := by
  unfold handF at h ⊢
  rw [if_pos hf.kind] at h ⊢
  by_cases c : (looseS f i).1 < d
  · rw [if_pos c] at h; cases h
  · rw [if_neg c] at h ⊢
    exact withS_LI hf.kind hf.hb (fun q => handS_CB hf.cb h1 h2 q) h
theorem reserveF_LI {b u : Int} (hu : 0 ≤ u) (hu2 : u ≤ 1000000) {f : TField} (hf : LI b u f) {k a d : Int} (ha : a ≤ 3000) (h : (reserveF f k a d).2.2 = 0) : LI b (u + 1) (reserveF f k a d).1 := by
  unfold reserveF at h ⊢
  rw [if_pos hf.kind] at h ⊢
  by_cases c : (looseS f k).1 < a
  · rw [if_pos c] at h; cases h
  · rw [if_neg c] at h ⊢
    by_cases e : (ResS f.Holds k a d).2.2 = 0
    · rw [if_pos e]; exact ⟨hf.kind, hf.cb, ResS_HB hu hu2 hf.hb ha e⟩
    · rw [if_neg e] at h; exact (e h).elim
theorem endF_LI {b u : Int} {f : TField} (hf : LI b u f) {k n st : Int} (h : (endFd f k n st).2 = 0) : LI (b + 3000) u (endFd f k n st).1 := by
  unfold endFd at h ⊢
  rw [if_pos hf.kind] at h ⊢
  by_cases e : (EndS f.Holds k n st).2.2 = 0
  · rw [if_pos e] at h ⊢
    obtain ⟨q1, q2⟩ := EndS_HB hf.hb e
    by_cases s : st = 2
    · rw [if_pos s] at h ⊢
      exact withS_LI hf.kind q1 (fun z => decS_CB hf.cb q2 z) h
    · rw [if_neg s]; exact ⟨hf.kind, hf.cb.mono (by omega), q1⟩
  · rw [if_neg e] at h; exact (e h).elim
theorem expireF_LI {b u : Int} {f : TField} (hf : LI b u f) (k t : Int) : LI b u (expireF f k t).1 := by
  unfold expireF
  rw [if_pos hf.kind]
  exact ⟨hf.kind, hf.cb, Exp_HB hf.hb k t⟩
theorem joinF_LI {b u : Int} {f g : TField} (hf : LI b u f) (hg : LI b u g) (h : (joinF f g).2 = 0) : LI b u (joinF f g).1 := by
  obtain ⟨h1, h2, h3, e⟩ := joinF_zero h
  rw [e]
  exact ⟨hf.kind, joinC_CB hf.cb hg.cb h2, JS_HB hf.hb hg.hb h3⟩
end Go.Av
namespace Go.Av
set_option linter.unusedSectionVars false
set_option linter.unusedVariables false
set_option linter.unusedSimpArgs false

theorem obl {α β : Type} (x : α) (f : α → Option β) : Option.bind (some x) f = f x := rfl
theorem Step_LI {b u : Int} (hb : 0 ≤ b) (hu : 0 ≤ u) (hu2 : u ≤ 1000000) (s : Vector TField 16) (hs : ∀ i : Fin 16, LI b u (s.get i)) (d : Tusufructlaw07_Do) (hN1 : -3000 ≤ d.N) (hN2 : d.N ≤ 3000) (hM1 : -3000 ≤ d.M) (hM2 : d.M ≤ 3000) :
    ∃ e s', usufructlaw07_Step d s = some (e, s') ∧ ∀ i : Fin 16, LI (b + 3000) (u + 1) (s'.get i) := by
  have same : ∀ i : Fin 16, LI (b + 3000) (u + 1) (s.get i) := fun i => (hs i).mono (by omega) (by omega)
  unfold usufructlaw07_Step
  by_cases hI : 0 ≤ d.I ∧ d.I < 16
  rotate_left
  · rw [if_pos (by simp; omega)]; exact ⟨_, _, rfl, same⟩
  rw [if_neg (by simp; omega), fix_int hI.1 hI.2, obl, letM_eq]
  have hx := hs ⟨d.I.toNat, by omega⟩
  generalize hxe : s.get ⟨d.I.toNat, by omega⟩ = x at hx
  have hlen := hx.len
  have put : ∀ y, LI (b + 3000) (u + 1) y → ∀ (e : Int), ∃ e' s', (Option.bind (some (⟨d.I.toNat, by omega⟩ : Fin 16)) fun k => letM (s.set k.val y) fun v => some (e, v)) = some (e', s') ∧ ∀ i : Fin 16, LI (b + 3000) (u + 1) (s'.get i) := fun y hy e =>
    ⟨e, _, rfl, fun i => by
      rw [vget_set]
      split
      · exact hy
      · exact same i⟩
  have fin : ∀ (y : TField) (e : Int), (e = 0 → LI (b + 3000) (u + 1) y) → ∃ e' s', (if (decide (e = 0)) = true then (Option.bind (some (⟨d.I.toNat, by omega⟩ : Fin 16)) fun k => letM (s.set k.val y) fun v => some (e, v)) else some (e, s)) = some (e', s') ∧ ∀ i : Fin 16, LI (b + 3000) (u + 1) (s'.get i) := fun y e hy => by
    by_cases c : e = 0
    · rw [if_pos (by simp [c])]; exact put y (hy c) e
    · rw [if_neg (by simp [c])]; exact ⟨_, _, rfl, same⟩
  by_cases c0 : d.Verb = 0
  · rw [if_pos (by simp [c0]), field_Add_eq _ _ _ (by omega), obl]
    exact fin _ _ fun h => (addF_LI hx hN1 hN2 h).mono (by omega) (by omega)
  rw [if_neg (by simp [c0])]
  by_cases c1 : d.Verb = 1
  · rw [if_pos (by simp [c1]), field_Hand_eq _ _ _ _ _ (by omega), obl]
    exact fin _ _ fun h => (handF_LI hx hN2 hM2 h).mono (by omega) (by omega)
  rw [if_neg (by simp [c1])]
  by_cases c2 : d.Verb = 2
  · rw [if_pos (by simp [c2]), field_Reserve_eq _ _ _ _ (by omega), obl]
    exact fin _ _ fun h => (reserveF_LI hu hu2 hx hN2 h).mono (by omega) (by omega)
  rw [if_neg (by simp [c2])]
  by_cases c3 : d.Verb = 3
  · rw [if_pos (by simp [c3]), field_End_eq _ _ _ _ (by omega), obl]
    exact fin _ _ fun h => (endF_LI hx h).mono (by omega) (by omega)
  rw [if_neg (by simp [c3])]
  by_cases c4 : d.Verb = 4
  · rw [if_pos (by simp [c4]), field_Expire_eq _ _ _ (by omega), obl, if_pos (by decide)]
    exact put _ ((expireF_LI hx _ _).mono (by omega) (by omega)) 0
  rw [if_neg (by simp [c4])]
  have nl : ∀ l : TLock × Int, lockF x l = (default, 17) := fun l => by unfold lockF; rw [if_neg (by rw [hx.kind]; decide)]
  by_cases c5 : d.Verb = 5
  · rw [if_pos (by simp [c5]), field_Write_eq _ _ _ (by omega), obl, nl]
    exact fin _ _ fun h => by cases h
  rw [if_neg (by simp [c5])]
  by_cases c6 : d.Verb = 6
  · rw [if_pos (by simp [c6]), field_Pass_eq _ _ _ (by omega), obl, nl]
    exact fin _ _ fun h => by cases h
  rw [if_neg (by simp [c6])]
  by_cases c7 : d.Verb = 7
  · rw [if_pos (by simp [c7])]
    by_cases hK : 0 ≤ d.K ∧ d.K < 16
    · rw [if_pos (by simp; omega), fix_int hK.1 hK.2, obl, letM_eq]
      have hy := hs ⟨d.K.toNat, by omega⟩
      rw [field_Join_eq _ _ (by omega) hy.len, obl]
      exact fin _ _ fun h => (joinF_LI hx hy h).mono (by omega) (by omega)
    · rw [if_neg (by simp; omega), if_neg (by decide)]; exact ⟨_, _, rfl, same⟩
  rw [if_neg (by simp [c7]), if_neg (by decide)]; exact ⟨_, _, rfl, same⟩

theorem zero16v : ∀ k : Fin 16, (default : Vector (Vector Int 16) 16).get k = default := by decide
theorem only_VB {d b : Int} (h0 : 0 ≤ d) (h1 : d ≤ b) : VB b (only d) := by
  have e : only d = set16 default 0 d := by rw [set16_of _ (by omega)]; rfl
  rw [e]
  intro i
  rw [at16_set _ (by omega)]
  by_cases c : i = 0
  · rw [if_pos c]; omega
  · rw [if_neg c, at16_zero]; omega
theorem only_RB {d b : Int} (h0 : 0 ≤ d) (h1 : d ≤ b) : RB b ⟨only d, default, default⟩ := by
  refine ⟨only_VB h0 h1, VB_zero (by omega), fun i => ?_⟩
  unfold rowAt
  by_cases hi : i < 16
  · rw [dif_pos hi]; show VB b ((default : Vector (Vector Int 16) 16).get ⟨i, hi⟩); rw [zero16v]; exact VB_zero (by omega)
  · rw [dif_neg hi]; exact VB_zero (by omega)
theorem new_LI {n : ByteArray} {i l h : Int} (hn : NewOk i l h) (hl : -1000 ≤ l) (hh : h ≤ 1000) : LI 2000 0 ⟨n, 1, 0, newC i l h, zeroL, []⟩ := by
  obtain ⟨_, _, _, h1, h2, _⟩ := hn
  exact ⟨rfl, ⟨⟨show -1000 ≤ i by omega, show i ≤ 1000 by omega⟩, only_RB (by omega) (by omega), only_RB (by omega) (by omega)⟩, ⟨show Rts [] by decide, fun x hx => by cases hx⟩⟩

theorem negs_at (v : Vector Int 16) (h : VB 1000000 v) : negs v = (List.range 16).map fun i => - at16 v i := by
  unfold negs
  refine List.map_congr_left fun i _ => ?_
  have := h i
  rw [wr_id (by omega)]; omega
theorem freeL_bnd {r : TRights} (h : RB 1000000 r) (k : Nat) : ∀ x ∈ freeL r k, -1000000 ≤ x ∧ x ≤ 1000000 := by
  intro x hx
  unfold freeL at hx
  rw [negs_at _ (h.moved k)] at hx
  simp only [List.mem_append, List.mem_singleton, List.mem_map] at hx
  rcases hx with ((rfl | ⟨i, _, rfl⟩) | rfl) | ⟨i, _, rfl⟩
  · have := h.given k; omega
  · have := h.moved i k; omega
  · have := h.used k; rw [wr_id (by omega)]; omega
  · have := h.moved k i; omega
theorem freeS_small {r : TRights} (h : RB 1000000 r) {k : Int} (h0 : 0 ≤ k) (h1 : k < 16) : freeS r k = ((freeL r k.toNat).sum, 0) := by
  unfold freeS
  rw [if_pos ⟨h0, h1⟩, sumS_small (freeL_bnd h _) (by simp [freeL, negs])]
theorem freeL_range {r : TRights} (h : RB 1000000 r) (k : Nat) : -34000000 ≤ (freeL r k).sum ∧ (freeL r k).sum ≤ 34000000 := by
  have := sum_bnd _ (freeL_bnd h k)
  have hl : (freeL r k).length = 34 := by simp [freeL, negs]
  rw [hl] at this; omega
theorem freeL_used {r : TRights} (h : RB 1000000 r) {k : Nat} (hk : k < 16) (a : Int) (ha : 0 ≤ a) (ha2 : a ≤ 100000000) : (freeL { r with Used := set16 r.Used k (at16 r.Used k + a) } k).sum = (freeL r k).sum - a := by
  have hu := h.used k
  unfold freeL
  simp only [List.sum_append, List.sum_cons, List.sum_nil]
  rw [at16_set _ hk, if_pos rfl, wr_id (by omega), wr_id (by omega)]
  have e : ∀ i, rowAt { r with Used := set16 r.Used k (at16 r.Used k + a) } i = rowAt r i := fun i => rfl
  simp only [e]
  omega
theorem valL_bnd {b : Int} {c : TCounter} (h : CB b c) (hb : b ≤ 1000000) : ∀ x ∈ valL c, -1000000 ≤ x ∧ x ≤ 1000000 := by
  intro x hx
  unfold valL at hx
  rw [negs_at _ (h.down.used.mono hb), ← at16_list] at hx
  simp only [List.mem_append, List.mem_singleton, List.mem_map] at hx
  rcases hx with (rfl | ⟨i, _, rfl⟩) | ⟨i, _, rfl⟩
  · have := h.init; omega
  · have := h.up.used i; omega
  · have := h.down.used i; omega
theorem view_small {b : Int} {x : TField} (hk : x.Kind = 1) (h : CB b x.Counter) (hb : b ≤ 1000000) : viewS x = ((valL x.Counter).sum, 0) := by
  unfold viewS
  rw [if_pos hk, sumS_small (valL_bnd h hb) (by simp [valL, negs])]
theorem valL_range {b : Int} {c : TCounter} (h : CB b c) (hb : b ≤ 1000000) : -33000000 ≤ (valL c).sum ∧ (valL c).sum ≤ 33000000 := by
  have := sum_bnd _ (valL_bnd h hb)
  have hl : (valL c).length = 33 := by simp [valL, negs]
  rw [hl] at this; omega
end Go.Av
namespace Go.Av
set_option linter.unusedSectionVars false
set_option linter.unusedVariables false
set_option linter.unusedSimpArgs false

def SmH (l : List THold) : Prop := (∀ h ∈ l, 0 ≤ h.Amount ∧ h.Amount ≤ 1073741824) ∧ l.length ≤ 40
theorem SmH.put {l : List THold} (h : SmH l) (hl : l.length ≤ 16) {X : THold} (h0 : 0 ≤ X.Amount) (h1 : X.Amount ≤ 1073741824) : SmH (putS l X) :=
  ⟨fun y hy => by
    rcases putS_mem.1 hy with rfl | hy
    · exact ⟨h0, h1⟩
    · exact h.1 y hy, by rw [putS_length]; omega⟩
theorem loose_gen {x : TField} (hk : x.Kind = 1) (hd : RB 1000000 x.Counter.Down) (hu : RB 1000000 x.Counter.Up) (hs : SmH x.Holds) {k : Int} (h0 : 0 ≤ k) (h1 : k < 16) :
    looseS x k = ((freeL x.Counter.Down k.toNat).sum - tot k x.Holds, (freeL x.Counter.Up k.toNat).sum) := by
  unfold looseS
  rw [if_pos hk, freeS_small hd h0 h1, freeS_small hu h0 h1, sum_tot hs.1 hs.2]
  have r1 := freeL_range hd k.toNat
  have r2 := tot_range (r := k) hs.1
  have := hs.2
  rw [wr_id (by simp only; omega)]
theorem reserve_ok {l : List THold} {k a d : Int} (hr : Rts l) (hx : HOk (newH l k a d)) (hn : l.length ≠ 16) :
    (putS l (newH l k a d)).length = l.length + 1 ∧ (∀ st, st = 2 ∨ st = 3 → EndS (putS l (newH l k a d)) k (NextN l k) st = (putS l { newH l k a d with State := st }, a, 0)) ∧
    tot k (putS l (newH l k a d)) = a + tot k l ∧ ∀ st, st = 2 ∨ st = 3 → tot k (putS l { newH l k a d with State := st }) = tot k l := by
  have ho := newH_off (r := k) (a := a) (d := d) hr.1
  obtain ⟨i, f1, f2, f3⟩ := find_put (newH l k a d) l ho
  have hRp := Rts_put hr hx ho hn
  refine ⟨putS_length _ _, fun st hst => ?_, ?_, fun st hst => ?_⟩
  · unfold EndS
    rw [if_pos ⟨hRp, hst⟩, show (putS l (newH l k a d)).findIdx? (isK k (NextN l k)) = some i from f1]
    simp only [f2]
    rw [if_pos (show (newH l k a d).State = 1 from rfl), f3]; rfl
  · rw [tot_put, val, if_pos ⟨rfl, rfl⟩]; rfl
  · rw [tot_put, val, if_neg (by simp only; omega)]; omega
theorem sumO_big : ∀ (l : List Int) (n : Int), (∀ x ∈ l, -10000000 ≤ x ∧ x ≤ 10000000) → -1099511627776 ≤ n - 10000000 * (l.length : Int) → n + 10000000 * (l.length : Int) ≤ 1099511627776 → sumO n l = some (n + l.sum)
  | [], n, _, _, _ => by simp [sumO]
  | x :: t, n, h, h1, h2 => by
    have hx := h x (by simp)
    simp only [List.length_cons] at h1 h2
    have e : addS n x = (n + x, 0) := by unfold addS; rw [if_pos ⟨by unfold IsN; omega, by unfold IsN; omega, by unfold IsN; omega⟩]
    rw [sumO, e, if_pos rfl, sumO_big t (n + x) (fun y hy => h y (by simp [hy])) (by omega) (by omega), List.sum_cons]
    congr 1; omega
theorem sum_bnd6 {r : TRights} (h : RB 200000 r) (k : Nat) : (freeL r k).sum ≤ 6800000 := by
  have key : ∀ l : List Int, (∀ x ∈ l, x ≤ 200000) → l.sum ≤ 200000 * (l.length : Int) := by
    intro l
    induction l with
    | nil => intro _; simp
    | cons x t ih =>
      intro hh
      have q1 := ih fun y hy => hh y (by simp [hy])
      have q2 := hh x (by simp)
      simp only [List.sum_cons, List.length_cons]; omega
  have hl : (freeL r k).length = 34 := by simp [freeL, negs]
  have := key (freeL r k) (by
    intro x hx
    unfold freeL at hx
    rw [negs_at _ ((h.moved k).mono (by omega))] at hx
    simp only [List.mem_append, List.mem_singleton, List.mem_map] at hx
    rcases hx with ((rfl | ⟨i, _, rfl⟩) | rfl) | ⟨i, _, rfl⟩
    · exact (h.given k).2
    · exact (h.moved i k).2
    · have := h.used k; rw [wr_id (by omega)]; omega
    · have := h.moved k i; omega)
  rw [hl] at this; omega
/-- The counter behind a hold that is kept. -/
def kept (c : TCounter) (k : Nat) (a : Int) : TCounter := { c with Down := { c.Down with Used := set16 c.Down.Used k (at16 c.Down.Used k + a) }, Up := { c.Up with Given := set16 c.Up.Given k (at16 c.Up.Given k + a) } }
theorem addS_ok {a b : Int} (ha : -100000000 ≤ a ∧ a ≤ 100000000) (hb : -100000000 ≤ b ∧ b ≤ 100000000) : addS a b = (a + b, 0) := by
  unfold addS; rw [if_pos ⟨by unfold IsN; omega, by unfold IsN; omega, by unfold IsN; omega⟩]
theorem growS_ok {v : Vector Int 16} (h : VB 1000000 v) {k n : Int} (h0 : 0 ≤ k) (h1 : k < 16) (hn : 0 ≤ n) (hn2 : n ≤ 100000000) : growS v k n = (set16 v k.toNat (at16 v k.toNat + n), 0) := by
  have := h k.toNat
  unfold growS
  rw [if_pos ⟨h0, h1, hn⟩, addS_ok (by omega) (by omega), if_pos rfl]
theorem decS_ok {c : TCounter} (hd : RB 1000000 c.Down) (hu : RB 1000000 c.Up) {k a : Int} (h0 : 0 ≤ k) (h1 : k < 16) (ha : 0 ≤ a) (hf : a ≤ (freeL c.Down k.toNat).sum) : decS c k a = (kept c k.toNat a, 0) := by
  have hr := freeL_range hd k.toNat
  have he : enoughS c.Down k a = 0 := by
    unfold enoughS
    rw [if_neg (by omega), freeS_small hd h0 h1, if_pos rfl, if_neg (by simp only; omega)]
  have hU : useS c.Down k a = ({ c.Down with Used := set16 c.Down.Used k.toNat (at16 c.Down.Used k.toNat + a) }, 0) := by
    unfold useS
    rw [if_pos he, growS_ok hd.used h0 h1 ha (by omega), if_pos rfl]
  have hG : giveS c.Up k a = ({ c.Up with Given := set16 c.Up.Given k.toNat (at16 c.Up.Given k.toNat + a) }, 0) := by
    unfold giveS
    rw [growS_ok hu.given h0 h1 ha (by omega), if_pos rfl]
  unfold decS
  rw [hU, if_pos rfl, hG, if_pos rfl]; rfl
theorem kept_free {c : TCounter} (hd : RB 200000 c.Down) {k : Int} (h0 : 0 ≤ k) (h1 : k < 16) {a : Int} (ha : 0 ≤ a) (ha2 : a ≤ 6800000) : sumS (freeL (kept c k.toNat a).Down k.toNat) = ((freeL c.Down k.toNat).sum - a, 0) := by
  have e := freeL_used (hd.mono (show (200000 : Int) ≤ 1000000 by omega)) (show k.toNat < 16 by omega) a ha (by omega)
  have hr := freeL_range (hd.mono (show (200000 : Int) ≤ 1000000 by omega)) k.toNat
  have bnd : ∀ x ∈ freeL (kept c k.toNat a).Down k.toNat, -10000000 ≤ x ∧ x ≤ 10000000 := by
    intro x hx
    unfold freeL at hx
    rw [negs_at _ ((show VB 200000 (rowAt (kept c k.toNat a).Down k.toNat) from hd.moved k.toNat).mono (by omega))] at hx
    simp only [List.mem_append, List.mem_singleton, List.mem_map] at hx
    rcases hx with ((rfl | ⟨i, _, rfl⟩) | rfl) | ⟨i, _, rfl⟩
    · have := hd.given k.toNat
      show -10000000 ≤ at16 c.Down.Given k.toNat ∧ at16 c.Down.Given k.toNat ≤ 10000000; omega
    · have := hd.moved i k.toNat
      show -10000000 ≤ at16 (rowAt c.Down i) k.toNat ∧ at16 (rowAt c.Down i) k.toNat ≤ 10000000; omega
    · have hu := hd.used k.toNat
      show -10000000 ≤ wr .i64 (0 - at16 (set16 c.Down.Used k.toNat (at16 c.Down.Used k.toNat + a)) k.toNat) ∧ wr .i64 (0 - at16 (set16 c.Down.Used k.toNat (at16 c.Down.Used k.toNat + a)) k.toNat) ≤ 10000000
      rw [at16_set _ (by omega), if_pos rfl, wr_id (by omega)]; omega
    · have := hd.moved k.toNat i
      show -10000000 ≤ - at16 (rowAt c.Down k.toNat) i ∧ - at16 (rowAt c.Down k.toNat) i ≤ 10000000; omega
  unfold sumS
  rw [sumO_big _ 0 bnd (by simp [freeL, negs]) (by simp [freeL, negs])]
  have e' : (freeL (kept c k.toNat a).Down k.toNat).sum = (freeL c.Down k.toNat).sum - a := e
  rw [e']; simp
theorem kept_view {c : TCounter} (hc : CB 200000 c) {k : Int} (h0 : 0 ≤ k) (h1 : k < 16) {a : Int} (ha : 0 ≤ a) (ha2 : a ≤ 6800000) : sumS (valL (kept c k.toNat a)) = ((valL c).sum - a, 0) := by
  have hu := hc.down.used
  have hv2 : ∀ i, 0 ≤ at16 (set16 c.Down.Used k.toNat (at16 c.Down.Used k.toNat + a)) i ∧ at16 (set16 c.Down.Used k.toNat (at16 c.Down.Used k.toNat + a)) i ≤ 7000000 := fun i => by
    rw [at16_set _ (by omega)]
    have := hu i
    have := hu k.toNat
    split <;> omega
  have en : negs (kept c k.toNat a).Down.Used = (List.range 16).map fun i => - at16 (set16 c.Down.Used k.toNat (at16 c.Down.Used k.toNat + a)) i := by
    show negs (set16 c.Down.Used k.toNat (at16 c.Down.Used k.toNat + a)) = _
    unfold negs
    refine List.map_congr_left fun i _ => ?_
    have := hv2 i
    rw [wr_id (by omega)]; omega
  have ev : valL (kept c k.toNat a) = [c.Init] ++ (List.range 16).map (at16 c.Up.Used) ++ (List.range 16).map fun i => - at16 (set16 c.Down.Used k.toNat (at16 c.Down.Used k.toNat + a)) i := by
    unfold valL
    rw [en, at16_list]; rfl
  have ev0 : valL c = [c.Init] ++ (List.range 16).map (at16 c.Up.Used) ++ (List.range 16).map fun i => - at16 c.Down.Used i := by
    unfold valL
    rw [negs_at _ (hu.mono (by omega)), at16_list]
  have es := sum_upd (fun i => - at16 (set16 c.Down.Used k.toNat (at16 c.Down.Used k.toNat + a)) i) (fun i => - at16 c.Down.Used i) k.toNat (fun i hi => by rw [at16_set _ (by omega), if_neg hi]) 16
  rw [if_pos (by omega)] at es
  simp only [at16_set c.Down.Used (show k.toNat < 16 by omega), if_pos] at es
  have bnd : ∀ x ∈ valL (kept c k.toNat a), -10000000 ≤ x ∧ x ≤ 10000000 := by
    intro x hx
    rw [ev] at hx
    simp only [List.mem_append, List.mem_singleton, List.mem_map] at hx
    rcases hx with (rfl | ⟨i, _, rfl⟩) | ⟨i, _, rfl⟩
    · have := hc.init; omega
    · have := hc.up.used i; omega
    · have := hv2 i; omega
  unfold sumS
  rw [sumO_big _ 0 bnd (by simp [valL, negs]) (by simp [valL, negs]), ev, ev0]
  simp only [List.sum_append, List.sum_cons, List.sum_nil, at16_set c.Down.Used (show k.toNat < 16 by omega)]
  refine Prod.ext ?_ rfl
  simp only
  omega
end Go.Av
namespace Go.Av
set_option linter.unusedSectionVars false
set_option linter.unusedVariables false
set_option linter.unusedSimpArgs false

/-- What holds of a reserve, and of its ends. -/
structure DoneR (x : TField) (k a D U : Int) (r : TField) (n : Int) : Prop where
  loose : looseS r k = (D - a, U)
  rlen : r.Holds.length ≤ 1000000
  gone : (endFd r k n 3).2 = 0
  gonel : (looseS (endFd r k n 3).1 k).1 = D
  keep : (endFd r k n 2).2 = 0
  keepl : (looseS (endFd r k n 2).1 k).1 = D - a
  view : (viewS (endFd r k n 2).1).1 = (viewS x).1 - a
  glen : (endFd r k n 3).1.Holds.length ≤ 1000000
  klen : (endFd r k n 2).1.Holds.length ≤ 1000000
theorem reserve_fin {x : TField} (hx : LI 200000 100 x) {k a : Int} (h0 : 0 ≤ k) (h1 : k < 16) :
    ∃ D U, looseS x k = (D, U) ∧ -200000000 ≤ D ∧ D ≤ 200000000 ∧ (-33000000 ≤ (viewS x).1 ∧ (viewS x).1 ≤ 33000000) ∧ ((reserveF x k a 9).2.2 ≠ 0 → a < 0 ∨ D < a ∨ x.Holds.length = 16) ∧
      ((reserveF x k a 9).2.2 = 0 → (0 ≤ a ∧ a ≤ 200000000) ∧ DoneR x k a D U (reserveF x k a 9).1 (reserveF x k a 9).2.1) := by
  have hd := hx.cb.down.mono (show (200000 : Int) ≤ 1000000 by omega)
  have hu := hx.cb.up.mono (show (200000 : Int) ≤ 1000000 by omega)
  have hr := hx.hb.rts
  have h16 := hr.2.2
  have hsm : SmH x.Holds := ⟨fun h hm => ⟨(hr.1 h hm).2.2.2.2.1.1, by have := (hx.hb.few_ h hm).1; omega⟩, by omega⟩
  have hl := loose_gen hx.kind hd hu hsm h0 h1
  have r1 := freeL_range hd k.toNat
  have r2 : 0 ≤ tot k x.Holds ∧ tot k x.Holds ≤ 48000 := by
    have : ∀ l : List THold, (∀ h ∈ l, 0 ≤ h.Amount ∧ h.Amount ≤ 3000) → 0 ≤ tot k l ∧ tot k l ≤ 3000 * (l.length : Int) := by
      intro l
      induction l with
      | nil => intro _; simp [tot]
      | cons h t ih =>
        intro hh
        have q1 := ih fun y hy => hh y (by simp [hy])
        have q2 := hh h (by simp)
        have q3 : 0 ≤ val k h ∧ val k h ≤ 3000 := by unfold val; split <;> omega
        simp only [tot, List.map_cons, List.sum_cons, List.length_cons] at *
        omega
    have := this x.Holds fun h hm => ⟨(hr.1 h hm).2.2.2.2.1.1, (hx.hb.few_ h hm).1⟩
    omega
  have hvw := view_small hx.kind hx.cb (by omega)
  have hvr := valL_range hx.cb (by omega)
  refine ⟨_, _, hl, by omega, by omega, by rw [hvw]; exact hvr, ?_, ?_⟩
  · intro he
    by_cases ha : a < 0
    · exact .inl ha
    by_cases hD : (freeL x.Counter.Down k.toNat).sum - tot k x.Holds < a
    · exact .inr (.inl hD)
    refine .inr (.inr (Classical.byContradiction fun hn => he ?_))
    have hX : HOk (newH x.Holds k a 9) := by
      have hN := NextN_le k (show (0 : Int) ≤ 100 by omega) (by omega) fun y hy => ⟨by have := (hr.1 y hy).2.2.1; omega, (hx.hb.few_ y hy).2⟩
      have hN1 := next_max k x.Holds 0 hr.1 (by omega) (by omega)
      have hN2 : NextN x.Holds k = x.Holds.foldl (mstep k) 0 + 1 := hN1.1
      unfold HOk Cnt
      show 0 ≤ k ∧ k < 16 ∧ 1 ≤ NextN x.Holds k ∧ NextN x.Holds k ≤ 1099511627776 ∧ (0 ≤ a ∧ a ≤ 1099511627776) ∧ ((0 : Int) ≤ 9 ∧ (9 : Int) ≤ 1099511627776) ∧ (1 : Int) ≤ 1 ∧ (1 : Int) ≤ 3
      have := hN1.2.1
      omega
    unfold reserveF
    rw [if_pos hx.kind, hl, if_neg hD, ResS_ok hr hX hn, if_pos rfl]
  · intro he
    unfold reserveF at he ⊢
    rw [if_pos hx.kind, hl] at he ⊢
    by_cases hD : (freeL x.Counter.Down k.toNat).sum - tot k x.Holds < a
    · rw [if_pos hD] at he; cases he
    rw [if_neg hD] at he ⊢
    by_cases hX : HOk (newH x.Holds k a 9)
    rotate_left
    · rw [ResS_no (fun q => hX q.2)] at he; cases he
    by_cases hn : x.Holds.length = 16
    · rw [ResS_full hr hX hn] at he; cases he
    rw [ResS_ok hr hX hn, if_pos rfl]
    have ha : 0 ≤ a := hX.2.2.2.2.1.1
    obtain ⟨p1, p2, p3, p4⟩ := reserve_ok hr hX hn
    have sX := hsm.put h16 (X := newH x.Holds k a 9) ha (show a ≤ 1073741824 by omega)
    have sS : ∀ st, SmH (putS x.Holds { newH x.Holds k a 9 with State := st }) := fun st => hsm.put h16 ha (show a ≤ 1073741824 by omega)
    have lS : ∀ st, (putS x.Holds { newH x.Holds k a 9 with State := st }).length = x.Holds.length + 1 := fun st => putS_length _ _
    have e3 : endFd { x with Holds := putS x.Holds (newH x.Holds k a 9) } k (NextN x.Holds k) 3 = ({ x with Holds := putS x.Holds { newH x.Holds k a 9 with State := 3 } }, 0) := by
      unfold endFd
      rw [if_pos hx.kind]
      simp only []
      rw [p2 3 (.inr rfl), if_pos rfl, if_neg (by decide)]
    have e2 : endFd { x with Holds := putS x.Holds (newH x.Holds k a 9) } k (NextN x.Holds k) 2 = ({ x with Holds := putS x.Holds { newH x.Holds k a 9 with State := 2 }, Counter := kept x.Counter k.toNat a }, 0) := by
      unfold endFd
      rw [if_pos hx.kind]
      simp only []
      rw [p2 2 (.inl rfl), if_pos rfl, if_pos trivial]
      show withS _ (decS x.Counter k a) = _
      rw [decS_ok hd hu h0 h1 ha (by omega)]
      rfl
    have kf := kept_free hx.cb.down h0 h1 ha (show a ≤ 6800000 by
      have := sum_bnd6 hx.cb.down k.toNat; omega)
    have kv := kept_view hx.cb h0 h1 ha (show a ≤ 6800000 by
      have := sum_bnd6 hx.cb.down k.toNat; omega)
    refine ⟨⟨ha, by omega⟩, ?_, by simp only; rw [p1]; omega, by simp only; rw [e3], ?_, by simp only; rw [e2], ?_, ?_, by simp only; rw [e3]; simp only; rw [lS]; omega, by simp only; rw [e2]; simp only; rw [lS]; omega⟩
    · simp only
      rw [loose_gen (x := { x with Holds := putS x.Holds (newH x.Holds k a 9) }) hx.kind hd hu sX h0 h1, p3]
      refine Prod.ext ?_ rfl
      simp only; omega
    · simp only
      rw [e3]
      simp only
      rw [loose_gen (x := { x with Holds := putS x.Holds { newH x.Holds k a 9 with State := 3 } }) hx.kind hd hu (sS 3) h0 h1, p4 3 (.inr rfl)]
    · simp only
      rw [e2]
      unfold looseS
      simp only
      rw [if_pos hx.kind, sum_tot (sS 2).1 (sS 2).2, p4 2 (.inl rfl)]
      unfold freeS
      rw [if_pos ⟨h0, h1⟩, kf, wr_id (by simp only; omega)]
      simp only; omega
    · simp only
      rw [e2, hvw]
      unfold viewS
      simp only
      rw [if_pos hx.kind, kv]
theorem FieldLoose_true (a1 a2 a3 : Int) (l : List Tusufructlaw07_Do) (k a : Int) : usufructlaw07_FieldLoose a1 a2 a3 l k a = some true := by
  unfold usufructlaw07_FieldLoose
  rw [field_Counter_eq _ _ _ _ (by decide), obl, letM_eq, letM_eq]
  have hNm : NameOk (⟨#[97]⟩ : ByteArray) := by decide
  by_cases hc : NewOk a1 a2 a3 ∧ (-1000 ≤ a2 ∧ a3 ≤ 1000) ∧ l.length ≤ 60 ∧ (0 ≤ k ∧ k < 16)
  rotate_left
  · rw [if_pos, awake7_eq]
    · rfl
    · unfold fieldC
      rw [if_pos hNm]
      by_cases h : NewOk a1 a2 a3
      · rw [if_pos h]
        simp only [decide_true, Bool.not_true, Bool.false_or, Bool.or_eq_true, decide_eq_true_eq]
        refine Classical.byContradiction fun q => hc ⟨h, ?_, ?_, ?_⟩ <;> omega
      · rw [if_neg h]; simp
  obtain ⟨hnew, hb, h60, h0, h1⟩ := hc
  have hf : fieldC (⟨#[97]⟩ : ByteArray) a1 a2 a3 = (⟨(⟨#[97]⟩ : ByteArray), 1, 0, newC a1 a2 a3, zeroL, []⟩, 0) := by unfold fieldC; rw [if_pos hNm, if_pos hnew]
  rw [hf]
  have h2 := new_LI (n := (⟨#[97]⟩ : ByteArray)) hnew hb.1 hb.2
  generalize (⟨(⟨#[97]⟩ : ByteArray), 1, 0, newC a1 a2 a3, zeroL, []⟩ : TField) = f at h2
  rw [if_neg (by simp; omega)]
  have hL1 : ∃ s, loopM (usufructlaw07_FieldLoose_L1 (f, 0)) fuel (0, (default : Vector TField 16)) = some s ∧ ∀ i : Fin 16, LI 2000 0 (s.get i) := by
    refine loopM_ind (fun i (s : Int × Vector TField 16) => s.1 = (i : Int) ∧ ∀ j : Fin 16, j.val < i → LI 2000 0 (s.2.get j)) 16 (by omega) (fun (s : Vector TField 16) => ∀ i : Fin 16, LI 2000 0 (s.get i)) ?_ ?_ (s0 := (0, default)) ⟨rfl, fun j h => by omega⟩
    · rintro i ⟨s1, s2⟩ hi ⟨rfl, hI⟩
      refine .inl ⟨_, by simp only [usufructlaw07_FieldLoose_L1]; rw [if_pos (by simp; omega), fix_of hi, obl, letM_eq], wr_succ (show i < 1000000000000000 by omega), fun j hj => ?_⟩
      simp only
      rw [vget_set]
      split
      · exact h2
      · exact hI j (by omega)
    · rintro ⟨s1, s2⟩ ⟨rfl, hI⟩
      exact ⟨_, by simp only [usufructlaw07_FieldLoose_L1]; rw [if_neg (by simp)], fun i => hI i i.2⟩
  obtain ⟨s0, e0, hs0⟩ := hL1
  rw [e0, obl]
  have hL2 : ∃ r, loopM (usufructlaw07_FieldLoose_L2 l) fuel (0, s0) = some r ∧ (r = .inr true ∨ ∃ s, r = .inl s ∧ ∀ i : Fin 16, LI 200000 100 (s.get i)) := by
    refine loopM_ind (fun t (s : Int × Vector TField 16) => s.1 = (t : Int) ∧ ∀ j : Fin 16, LI (2000 + 3000 * (t : Int)) (t : Int) (s.2.get j)) l.length (by omega) (fun (r : Vector TField 16 ⊕ Bool) => r = .inr true ∨ ∃ s : Vector TField 16, r = .inl s ∧ ∀ i : Fin 16, LI 200000 100 (s.get i)) ?_ ?_ (s0 := (0, s0)) ⟨rfl, fun j => (hs0 j).mono (by omega) (by omega)⟩
    · rintro t ⟨s1, s2⟩ ht ⟨rfl, hI⟩
      simp only [usufructlaw07_FieldLoose_L2]
      rw [if_pos (by simp; omega), six_of ht, obl, letM_eq, letM_eq]
      generalize l.getD t default = d
      by_cases hd : (-3000 ≤ d.N ∧ d.N ≤ 3000) ∧ (-3000 ≤ d.M ∧ d.M ≤ 3000)
      · rw [if_neg (by simp; omega)]
        obtain ⟨e, s', q1, q2⟩ := Step_LI (by omega) (by omega) (by omega) s2 hI d hd.1.1 hd.1.2 hd.2.1 hd.2.2
        rw [q1, obl]
        exact .inl ⟨_, rfl, wr_succ (show t < 1000000000000000 by omega), fun j => (q2 j).mono (by omega) (by omega)⟩
      · rw [if_pos (by simp; omega), awake7_eq, obl]
        exact .inr ⟨_, rfl, .inl rfl⟩
    · rintro ⟨s1, s2⟩ ⟨rfl, hI⟩
      exact ⟨_, by simp only [usufructlaw07_FieldLoose_L2]; rw [if_neg (by simp)], .inr ⟨_, rfl, fun i => (hI i).mono (by omega) (by omega)⟩⟩
  obtain ⟨r, e1, hr⟩ := hL2
  rw [e1, obl]
  rcases hr with rfl | ⟨s, rfl, hs⟩
  · rfl
  simp only [onS]
  rw [fix_int h0 h1, obl, letM_eq]
  have hx := hs ⟨k.toNat, by omega⟩
  generalize s.get ⟨k.toNat, _⟩ = x at hx
  have hxl := hx.len
  obtain ⟨D, U, l1, d1, d2, v1, f1, f2⟩ := reserve_fin hx (a := a) h0 h1
  rw [field_Loose_eq x k (by omega), obl, field_Reserve_eq x k a 9 (by omega), obl, l1]
  by_cases he : (reserveF x k a 9).2.2 = 0
  · obtain ⟨⟨ha0, ha1⟩, F⟩ := f2 he
    have hr' := F.rlen
    have hg' := F.glen
    have hk' := F.klen
    rw [if_neg (by simp [he]), field_Loose_eq _ _ (by omega), obl, field_End_eq _ _ _ _ (by omega), obl, field_End_eq _ _ _ _ (by omega), obl, field_Loose_eq _ _ (by omega), obl, field_View_eq, obl, field_View_eq, obl, field_Loose_eq _ _ (by omega), obl]
    simp only [letM_eq, F.loose, F.gone, F.gonel, F.keep, F.keepl, F.view, awake7_eq]
    rw [wr_id (show _ ∧ _ by omega), wr_id (show _ ∧ _ by omega)]
    simp [gd]
  · rw [if_pos (by simp [he]), letM_eq, awake7_eq]
    have : ((decide (a < 0)) || (decide (D < a)) || (decide ((x.Holds.length : Int) = 16))) = true := by
      simp only [Bool.or_eq_true, decide_eq_true_eq]
      rcases f1 he with q | q | q
      · exact .inl (.inl q)
      · exact .inl (.inr q)
      · exact .inr (by omega)
    simp only [this]
    rfl
end Go.Av
