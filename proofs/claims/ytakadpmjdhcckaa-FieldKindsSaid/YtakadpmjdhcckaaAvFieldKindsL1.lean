/- The plain law: what the mirrors answer. -/
import Derived.Test.YtakadpmjdhcckaaAvFieldKindsM1
namespace Go.Av
set_option linter.unusedSectionVars false
set_option linter.unusedVariables false
set_option linter.unusedSimpArgs false

theorem fuel_big : 1000000000000000 < fuel := by decide
theorem wr_id {n : Int} (h : -9223372036854775808 ≤ n ∧ n ≤ 9223372036854775807) : wr .i64 n = n := wrap_id h.1 h.2
theorem wr_succ {i : Nat} (h : i < 1000000000000000) : wr .i64 ((i : Int) + 1) = ((i + 1 : Nat) : Int) := by rw [wr_id (by omega)]; omega
theorem six_of {α : Type} {xs : List α} {i : Nat} (h : i < xs.length) : six xs (i : Int) = some i := by simp [six]; omega
theorem app_of {α : Type} {b : Nat} {xs ys : List α} (h : (xs.length + ys.length) * b ≤ 140737488355328) : app b xs ys = some (xs ++ ys) := by simp [app, h]
@[simp] theorem gd_t {α : Type} [Inhabited α] {p : Prop} [Decidable p] {m : Option α} (h : p) : gd p m = m := by simp [gd, h]
@[simp] theorem gd_f {α : Type} [Inhabited α] {p : Prop} [Decidable p] {m : Option α} (h : ¬ p) : gd p m = some default := by simp [gd, h]
@[simp] theorem letM_eq {α β : Type} (e : α) (k : α → Option β) : letM e k = k e := rfl
@[simp] theorem onS_l {α β γ : Type} (f : α → Option γ) (g : β → Option γ) (a : α) : onS f g (.inl a) = f a := rfl
@[simp] theorem onS_r {α β γ : Type} (f : α → Option γ) (g : β → Option γ) (b : β) : onS f g (.inr b) = g b := rfl
theorem fix_of {k i : Nat} (h : i < k) : fix_ k (i : Int) = some ⟨i, h⟩ := by simp [fix_]; omega

section
variable {σ ρ : Type} {body : σ → Option (σ ⊕ ρ)}
theorem loopM_ind' (I : Nat → σ → Prop) (N : Nat) (Q : ρ → Prop) (step : ∀ i s, i < N → I i s → (∃ t, body s = some (.inl t) ∧ I (i + 1) t) ∨ (∃ r, body s = some (.inr r) ∧ Q r)) (fin : ∀ s, I N s → ∃ r, body s = some (.inr r) ∧ Q r) :
    ∀ (k i : Nat) (s : σ), i + k = N → I i s → ∀ n, k < n → ∃ r, loopM body n s = some r ∧ Q r
  | k, i, s, hk, hI, 0, hn => by omega
  | 0, i, s, hk, hI, n + 1, hn => by
    obtain rfl : i = N := by omega
    obtain ⟨r, h1, h2⟩ := fin s hI
    exact ⟨r, by simp [loopM, h1], h2⟩
  | k + 1, i, s, hk, hI, n + 1, hn => by
    rcases step i s (by omega) hI with ⟨t, h1, h2⟩ | ⟨r, h1, h2⟩
    · obtain ⟨r, h3, h4⟩ := loopM_ind' I N Q step fin k (i + 1) t (by omega) h2 n (by omega)
      exact ⟨r, by simp [loopM, h1, h3], h4⟩
    · exact ⟨r, by simp [loopM, h1], h2⟩
theorem loopM_ind (I : Nat → σ → Prop) (N : Nat) (hN : N ≤ 1000000000000000) (Q : ρ → Prop) (step : ∀ i s, i < N → I i s → (∃ t, body s = some (.inl t) ∧ I (i + 1) t) ∨ (∃ r, body s = some (.inr r) ∧ Q r))
    (fin : ∀ s, I N s → ∃ r, body s = some (.inr r) ∧ Q r) {s0 : σ} (h0 : I 0 s0) : ∃ r, loopM body fuel s0 = some r ∧ Q r :=
  loopM_ind' I N Q step fin N 0 s0 (by omega) h0 fuel (by have := fuel_big; omega)
theorem loopM_eq (I : Nat → σ → Prop) (N : Nat) (hN : N ≤ 1000000000000000) (q : ρ) (step : ∀ i s, i < N → I i s → (∃ t, body s = some (.inl t) ∧ I (i + 1) t) ∨ (body s = some (.inr q)))
    (fin : ∀ s, I N s → body s = some (.inr q)) {s0 : σ} (h0 : I 0 s0) : loopM body fuel s0 = some q := by
  obtain ⟨r, h1, rfl⟩ := loopM_ind I N hN (fun r => r = q) (fun i s hi hI => (step i s hi hI).imp id fun h => ⟨q, h, rfl⟩) (fun s hI => ⟨q, fin s hI, rfl⟩) h0
  exact h1
end

/-- A loop over numbers that stops at the first one that is told to. -/
theorem loop_find {ρ : Type} {body : Int → Option (Int ⊕ ρ)} (N : Nat) (hN : N ≤ 1000000000000000) (bad : Nat → Option ρ) (fin : ρ) (hb : ∀ i, i < N → body (i : Int) = some (match bad i with | some r => .inr r | none => .inl (((i + 1 : Nat)) : Int)))
    (hf : body (N : Int) = some (.inr fin)) : loopM body fuel 0 = some (((List.range N).findSome? bad).getD fin) := by
  refine loopM_eq (fun i s => s = (i : Int) ∧ ∀ j, j < i → bad j = none) N hN _ ?_ ?_ ⟨rfl, fun j h => by omega⟩
  · rintro i s hi ⟨rfl, hI⟩
    cases hbi : bad i with
    | none =>
      refine .inl ⟨_, by rw [hb i hi, hbi], rfl, fun j hj => ?_⟩
      rcases Nat.lt_succ_iff_lt_or_eq.1 hj with h | rfl
      · exact hI j h
      · exact hbi
    | some r =>
      refine .inr ?_
      rw [hb i hi, hbi]
      have : (List.range N).findSome? bad = some r := by
        rw [show N = i + (N - i) from by omega, List.range_add, List.findSome?_append]
        have h1 : (List.range i).findSome? bad = none := by
          rw [List.findSome?_eq_none_iff]; intro x hx; exact hI x (by simpa using hx)
        rw [h1]
        obtain ⟨m, hm⟩ : ∃ m, N - i = m + 1 := ⟨N - i - 1, by omega⟩
        rw [hm, List.range_succ_eq_map]
        simp [hbi]
      simp [this]
  · rintro s ⟨rfl, hI⟩
    rw [hf]
    have : (List.range N).findSome? bad = none := by rw [List.findSome?_eq_none_iff]; intro x hx; exact hI x (by simpa using hx)
    simp [this]

theorem foldl_range_list {α σ : Type} (xs : List α) (d : α) (g : σ → α → σ) (s0 : σ) : (List.range xs.length).foldl (fun s i => g s (xs.getD i d)) s0 = xs.foldl g s0 := by
  have : (List.range xs.length).map (fun i => xs.getD i d) = xs := by
    apply List.ext_getElem (by simp)
    intro i h1 h2
    simp [List.getD, h2]
  conv => rhs; rw [← this]
  rw [List.foldl_map]

/-- A loop over numbers that carries something along. -/
theorem loop_fold {σ ρ : Type} {body : Int × σ → Option ((Int × σ) ⊕ ρ)} (N : Nat) (hN : N ≤ 1000000000000000) (f : σ → Nat → σ) (out : σ → ρ) (J : Nat → σ → Prop) {s0 : σ} (h0 : J 0 s0)
    (hb : ∀ i s, i < N → J i s → body ((i : Int), s) = some (.inl ((((i + 1 : Nat)) : Int), f s i)) ∧ J (i + 1) (f s i)) (hf : ∀ s, J N s → body ((N : Int), s) = some (.inr (out s))) : loopM body fuel (0, s0) = some (out ((List.range N).foldl f s0)) ∧ J N ((List.range N).foldl f s0) := by
  have key : ∀ k, k ≤ N → J k ((List.range k).foldl f s0) := by
    intro k
    induction k with
    | zero => intro _; exact h0
    | succ k ih =>
      intro hk
      rw [List.range_succ, List.foldl_append]
      exact (hb k _ (by omega) (ih (by omega))).2
  refine ⟨?_, key N (Nat.le_refl _)⟩
  refine loopM_eq (fun i s => s = ((i : Int), (List.range i).foldl f s0)) N hN _ ?_ ?_ rfl
  · rintro i s hi rfl
    refine .inl ⟨_, (hb i _ hi (key i (by omega))).1, ?_⟩
    rw [List.range_succ, List.foldl_append]; rfl
  · rintro s rfl
    exact hf _ (key N (Nat.le_refl _))
end Go.Av
namespace Go.Av
set_option linter.unusedSectionVars false
set_option linter.unusedVariables false
set_option linter.unusedSimpArgs false

/-- A loop over numbers that stops at the first one that is not good. -/
theorem loop_all {ρ ξ : Type} {body : Int → Option (Int ⊕ (ξ ⊕ ρ))} (N : Nat) (hN : N ≤ 1000000000000000) (good : Nat → Prop) [DecidablePred good] (r : ρ) (x : ξ)
    (hb : ∀ i, i < N → body (i : Int) = some (if good i then .inl (((i + 1 : Nat)) : Int) else .inr (.inr r))) (hf : body (N : Int) = some (.inr (.inl x))) :
    loopM body fuel 0 = some (if ∀ i, i < N → good i then .inl x else .inr r) := by
  have h := loop_find (body := body) N hN (fun i => if good i then none else some (.inr r)) (.inl x) (fun i hi => by rw [hb i hi]; by_cases h : good i <;> simp [-List.getD_eq_getElem?_getD, h]) hf
  rw [h]
  by_cases hg : ∀ i, i < N → good i
  · have : (List.range N).findSome? (fun i => if good i then none else some (.inr r : ξ ⊕ ρ)) = none := by
      rw [List.findSome?_eq_none_iff]; intro i hi; simp [-List.getD_eq_getElem?_getD, hg i (by simpa using hi)]
    rw [this]; simp [-List.getD_eq_getElem?_getD, if_pos hg]
  · obtain ⟨v, hv⟩ : ∃ v, (List.range N).findSome? (fun i => if good i then none else some (.inr r : ξ ⊕ ρ)) = some v := by
      cases hc : (List.range N).findSome? (fun i => if good i then none else some (.inr r : ξ ⊕ ρ)) with
      | some v => exact ⟨v, rfl⟩
      | none =>
        rw [List.findSome?_eq_none_iff] at hc
        exact (hg fun i hi => by have := hc i (by simpa using hi); by_cases h : good i; exact h; simp [-List.getD_eq_getElem?_getD, h] at this).elim
    obtain ⟨i, hi, hv2⟩ := List.exists_of_findSome?_eq_some hv
    rw [hv, if_neg hg]
    by_cases h : good i <;> simp [-List.getD_eq_getElem?_getD, h] at hv2
    simp [-List.getD_eq_getElem?_getD, hv2]

def IsN (n : Int) : Prop := -1099511627776 ≤ n ∧ n ≤ 1099511627776
instance (n : Int) : Decidable (IsN n) := by unfold IsN; infer_instance
theorem sd {b : Bool} {P : Prop} [Decidable P] (h : b = true ↔ P) : some b = some (decide P) := by rw [show b = decide P from Bool.eq_iff_iff.2 (by simpa using h)]
theorem num_Is_eq (n : Int) : num_Is n = some (decide (IsN n)) := sd (by simp [-List.getD_eq_getElem?_getD, IsN])
theorem ref_Is_eq (n : Int) : usufructref01_Is n = some (decide (IsN n)) := sd (by simp [-List.getD_eq_getElem?_getD, IsN, and_comm])

theorem gd_and {p b : Bool} : gd (p = true) (some b) = some (if p = true then b else false) := by cases p <;> rfl
theorem wr_pred {i : Nat} (h0 : 0 < i) (h : i < 1000000000000000) : wr .i64 ((i : Int) - 1) = ((i - 1 : Nat) : Int) := by rw [wr_id (by omega)]; omega
end Go.Av
namespace Go.Av
set_option linter.unusedSectionVars false
set_option linter.unusedVariables false
set_option linter.unusedSimpArgs false

def Cnt (n : Int) : Prop := 0 ≤ n ∧ n ≤ 1099511627776
instance (n : Int) : Decidable (Cnt n) := by unfold Cnt; infer_instance
def HOk (h : THold) : Prop := 0 ≤ h.Replica ∧ h.Replica < 16 ∧ 1 ≤ h.Number ∧ h.Number ≤ 1099511627776 ∧ Cnt h.Amount ∧ Cnt h.Due ∧ 1 ≤ h.State ∧ h.State ≤ 3
instance (h : THold) : Decidable (HOk h) := by unfold HOk; infer_instance
theorem hold_count_eq (n : Int) : hold_count n = some (decide (Cnt n)) := by
  unfold hold_count
  rw [num_Is_eq]
  by_cases h : 0 ≤ n
  · rw [gd_t (by simp [h])]; refine sd ?_; simp only [Bool.and_eq_true, decide_eq_true_eq]; unfold IsN Cnt; omega
  · rw [gd_f (by simp [-List.getD_eq_getElem?_getD, h])]; refine sd ?_; simp [-List.getD_eq_getElem?_getD, h, Cnt]
theorem ref_counts_eq (n : Int) : usufructref06_counts n = some (decide (Cnt n)) := by
  unfold usufructref06_counts
  rw [ref_Is_eq]
  by_cases h : 0 ≤ n
  · rw [gd_t (by simp [h])]; refine sd ?_; simp only [Bool.and_eq_true, decide_eq_true_eq]; unfold IsN Cnt; omega
  · rw [gd_f (by simp [-List.getD_eq_getElem?_getD, h])]; refine sd ?_; simp [-List.getD_eq_getElem?_getD, h, Cnt]
theorem hold_Right_eq (h : THold) : hold_Right h = some (decide (HOk h)) := by
  unfold hold_Right
  simp only [num_Is_eq, hold_count_eq, letM_eq, gd_and, Option.bind]
  refine sd ?_
  simp only [Bool.and_eq_true, Bool.if_false_right, decide_eq_true_eq]
  first | unfold HOk IsN Cnt | unfold HOk Cnt
  omega
theorem ref_Right_eq (h : THold) : usufructref06_Right h = some (decide (HOk h)) := by
  unfold usufructref06_Right
  simp only [ref_counts_eq, letM_eq, gd_and, Option.bind]
  refine sd ?_
  simp only [Bool.and_eq_true, Bool.if_false_right, decide_eq_true_eq]
  first | unfold HOk IsN Cnt | unfold HOk Cnt
  omega

def HLt (a b : THold) : Prop := a.Replica < b.Replica ∨ (a.Replica = b.Replica ∧ a.Number < b.Number)
instance (a b : THold) : Decidable (HLt a b) := by unfold HLt; infer_instance
theorem HLt.trans {a b c : THold} (h : HLt a b) (k : HLt b c) : HLt a c := by unfold HLt at *; omega
theorem cmp_ge (a b : THold) : 0 ≤ holdCmp a b ↔ ¬ HLt a b := by
  unfold holdCmp HLt
  by_cases h : a.Replica = b.Replica
  · by_cases h1 : a.Number = b.Number
    · simp [-List.getD_eq_getElem?_getD, h, h1]
    · by_cases h2 : a.Number < b.Number <;> simp [-List.getD_eq_getElem?_getD, h, h1, h2]
  · by_cases h2 : a.Replica < b.Replica <;> simp [-List.getD_eq_getElem?_getD, h, h2]
theorem ref_Ahead_eq (a b : THold) : usufructref06_Ahead a b = some (decide (HLt a b)) := sd (by simp [-List.getD_eq_getElem?_getD, HLt])

def Rts (l : List THold) : Prop := (∀ h ∈ l, HOk h) ∧ l.Pairwise HLt ∧ l.length ≤ 16
instance (l : List THold) : Decidable (Rts l) := by unfold Rts; infer_instance
def Link (l : List THold) (i : Nat) : Prop := HOk (l.getD i default) ∧ (0 < i → HLt (l.getD (i - 1) default) (l.getD i default))
instance (l : List THold) : DecidablePred (Link l) := fun i => by unfold Link; infer_instance
theorem links_iff (l : List THold) : (∀ i, i < l.length → Link l i) ↔ (∀ h ∈ l, HOk h) ∧ l.Pairwise HLt := by
  constructor
  · intro h
    refine ⟨fun x hx => ?_, ?_⟩
    · obtain ⟨i, hi, rfl⟩ := List.getElem_of_mem hx
      simpa [List.getD, hi] using (h i hi).1
    · rw [List.pairwise_iff_getElem]
      intro i j hi hj hij
      induction j with
      | zero => omega
      | succ j ih =>
        have h1 := (h (j + 1) hj).2 (by omega)
        have e1 : l.getD (j + 1 - 1) default = l[j] := by simp [List.getD, show j < l.length by omega]
        have e2 : l.getD (j + 1) default = l[j + 1] := by simp [List.getD, hj]
        rw [e1, e2] at h1
        rcases Nat.lt_succ_iff_lt_or_eq.1 hij with h2 | rfl
        · exact (ih (by omega) h2).trans h1
        · exact h1
  · rintro ⟨h1, h2⟩ i hi
    rw [List.pairwise_iff_getElem] at h2
    refine ⟨by rw [show l.getD i default = l[i] by simp [List.getD, hi]]; exact h1 _ (List.getElem_mem hi), fun h0 => ?_⟩
    rw [show l.getD i default = l[i] by simp [List.getD, hi], show l.getD (i - 1) default = l[i - 1] by simp [List.getD, show i - 1 < l.length by omega]]
    exact h2 _ _ (by omega) hi (by omega)

theorem hold_Rights_eq (l : List THold) (hl : l.length ≤ 1000000000000000) : hold_Rights l = some (decide (Rts l)) := by
  unfold hold_Rights
  rw [loop_all l.length hl (Link l) false () (fun i hi => ?_) (by simp [-List.getD_eq_getElem?_getD, hold_Rights_L1])]
  · by_cases h : ∀ i, i < l.length → Link l i
    · rw [if_pos h]
      have := (links_iff l).1 h
      refine sd ?_
      simp only [Rts, this.1, this.2, true_and, decide_eq_true_eq]
      exact ⟨fun h => ⟨this.1, by omega⟩, fun h => by omega⟩
    · rw [if_neg h]
      have : ¬ Rts l := fun h2 => h ((links_iff l).2 ⟨h2.1, h2.2.1⟩)
      simp [-List.getD_eq_getElem?_getD, this]
  · simp only [hold_Rights_L1, hold_Right_eq, six_of hi, letM_eq, Option.bind]
    rw [if_pos (by simp; omega)]
    simp only [wr_succ (show i < 1000000000000000 by omega)]
    by_cases h1 : HOk (l.getD i default)
    · by_cases h0 : 0 < i
      · rw [gd_t (by simp [-List.getD_eq_getElem?_getD, h1, h0]), wr_pred h0 (by omega), six_of (by omega)]
        simp only [Option.bind]
        rw [gd_t (by simp [-List.getD_eq_getElem?_getD, h1, h0]), hold_compare_eq]
        simp only [Option.bind, cmp_ge, Link, h1, h0, true_and]
        by_cases h2 : HLt (l.getD (i - 1) default) (l.getD i default) <;> simp [-List.getD_eq_getElem?_getD, h2, h0]
      · obtain rfl : i = 0 := by omega
        simp [-List.getD_eq_getElem?_getD, h1, Link]
    · have : ¬ Link l i := fun h => h1 h.1
      rw [gd_f (by simp [-List.getD_eq_getElem?_getD, h1])]
      simp only [Option.bind]
      rw [gd_f (by simp [-List.getD_eq_getElem?_getD, h1])]
      simp [-List.getD_eq_getElem?_getD, h1, this]
theorem ref_Rights_eq (l : List THold) (hl : l.length ≤ 1000000000000000) : usufructref06_Rights l = some (decide (Rts l)) := by
  unfold usufructref06_Rights
  rw [loop_all l.length hl (Link l) false () (fun i hi => ?_) (by simp [-List.getD_eq_getElem?_getD, usufructref06_Rights_L1])]
  · by_cases h : ∀ i, i < l.length → Link l i
    · rw [if_pos h]
      have := (links_iff l).1 h
      refine sd ?_
      simp only [Rts, this.1, this.2, true_and, decide_eq_true_eq]
      exact ⟨fun h => ⟨this.1, by omega⟩, fun h => by omega⟩
    · rw [if_neg h]
      have : ¬ Rts l := fun h2 => h ((links_iff l).2 ⟨h2.1, h2.2.1⟩)
      simp [-List.getD_eq_getElem?_getD, this]
  · simp only [usufructref06_Rights_L1, ref_Right_eq, six_of hi, letM_eq, Option.bind]
    rw [if_pos (by simp; omega)]
    simp only [wr_succ (show i < 1000000000000000 by omega)]
    by_cases h1 : HOk (l.getD i default)
    · by_cases h0 : 0 < i
      · rw [gd_t (by simp [-List.getD_eq_getElem?_getD, h1, h0]), wr_pred h0 (by omega), six_of (by omega)]
        simp only [Option.bind]
        rw [gd_t (by simp [-List.getD_eq_getElem?_getD, h1, h0])]
        simp only [Option.bind]
        rw [gd_t (by simp [-List.getD_eq_getElem?_getD, h1, h0]), ref_Ahead_eq]
        simp only [Option.bind, Link, h1, h0, true_and]
        by_cases h2 : HLt (l.getD (i - 1) default) (l.getD i default) <;> simp [-List.getD_eq_getElem?_getD, h2, h0]
      · obtain rfl : i = 0 := by omega
        simp [-List.getD_eq_getElem?_getD, h1, Link]
    · have : ¬ Link l i := fun h => h1 h.1
      rw [gd_f (by simp [-List.getD_eq_getElem?_getD, h1])]
      simp only [Option.bind]
      rw [gd_f (by simp [-List.getD_eq_getElem?_getD, h1])]
      simp only [Option.bind]
      rw [gd_f (by simp [-List.getD_eq_getElem?_getD, h1])]
      simp [-List.getD_eq_getElem?_getD, h1, this]

end Go.Av
namespace Go.Av
set_option linter.unusedSectionVars false
set_option linter.unusedVariables false
set_option linter.unusedSimpArgs false

def sumStep (r : Int) (s : Int) (h : THold) : Int := if (decide (h.Replica = r) && decide (h.State = 1)) = true then min (wr .i64 (s + h.Amount)) 1099511627776 else s
def SumS (l : List THold) (r : Int) : Int := l.foldl (sumStep r) 0
theorem hold_Sum_eq (l : List THold) (r : Int) (hl : l.length ≤ 1000000000000) : hold_Sum l r = some (SumS l r) := by
  unfold hold_Sum
  rw [(loop_fold l.length (by omega) (fun s i => sumStep r s (l.getD i default)) id (fun _ _ => True) trivial (fun i s hi _ => ⟨?_, trivial⟩) (fun s _ => by simp [hold_Sum_L1])).1]
  · simp only [Option.bind, id, SumS]; rw [foldl_range_list]
  · simp only [hold_Sum_L1, six_of hi, letM_eq, Option.bind, sumStep]
    rw [if_pos (by simp; omega)]
    simp only [wr_succ (show i < 1000000000000000 by omega)]
    split <;> rfl
end Go.Av
namespace Go.Av
set_option linter.unusedSectionVars false
set_option linter.unusedVariables false
set_option linter.unusedSimpArgs false

def due (r t : Int) (h : THold) : Bool := decide (h.Replica = r) && decide (h.State = 1) && decide (h.Due < t)
def ex (r t : Int) (h : THold) : THold := if due r t h = true then { h with State := 3 } else h
def isK (r n : Int) (h : THold) : Bool := decide (h.Replica = r) && decide (h.Number = n)
end Go.Av
namespace Go.Av
set_option linter.unusedSectionVars false
set_option linter.unusedVariables false
set_option linter.unusedSimpArgs false

def putS : List THold → THold → List THold
  | [], x => [x]
  | h :: t, x => if HLt h x then h :: putS t x else x :: h :: t
theorem putS_length (x : THold) : ∀ l : List THold, (putS l x).length = l.length + 1
  | [] => rfl
  | h :: t => by unfold putS; split <;> simp [putS_length x t]
theorem putS_perm (x : THold) : ∀ l : List THold, (putS l x).Perm (x :: l)
  | [] => .refl _
  | h :: t => by
    unfold putS
    split
    · exact ((putS_perm x t).cons h).trans (.swap x h t)
    · exact .refl _
theorem putS_mem {x y : THold} {l : List THold} : y ∈ putS l x ↔ y = x ∨ y ∈ l := by rw [(putS_perm x l).mem_iff, List.mem_cons]
/-- Another key. -/
def Off (h x : THold) : Prop := ¬ (h.Replica = x.Replica ∧ h.Number = x.Number)
theorem HLt.off {a b : THold} (h : HLt a b) : Off a b ∧ Off b a := by unfold HLt Off at *; omega
theorem lt_or {a b : THold} (h : Off a b) (k : ¬ HLt a b) : HLt b a := by unfold HLt Off at *; omega
theorem putS_sorted (x : THold) : ∀ l : List THold, l.Pairwise HLt → (∀ h ∈ l, Off h x) → (putS l x).Pairwise HLt
  | [], _, _ => by simp [putS]
  | h :: t, hl, ho => by
    unfold putS
    rw [List.pairwise_cons] at hl
    split
    · rename_i hx
      rw [List.pairwise_cons]
      refine ⟨fun y hy => ?_, putS_sorted x t hl.2 fun y hy => ho y (by simp [hy])⟩
      rcases putS_mem.1 hy with rfl | hy
      · exact hx
      · exact hl.1 y hy
    · rename_i hx
      have h1 := lt_or (ho h (by simp)) hx
      rw [List.pairwise_cons, List.pairwise_cons]
      refine ⟨fun y hy => ?_, hl⟩
      rcases List.mem_cons.1 hy with rfl | hy
      · exact h1
      · exact h1.trans (hl.1 y hy)
theorem sorted_tri {l : List THold} (h : l.Pairwise HLt) {a b : THold} (ha : a ∈ l) (hb : b ∈ l) : a = b ∨ HLt a b ∨ HLt b a := by
  obtain ⟨i, hi, rfl⟩ := List.getElem_of_mem ha
  obtain ⟨j, hj, rfl⟩ := List.getElem_of_mem hb
  rw [List.pairwise_iff_getElem] at h
  rcases Nat.lt_trichotomy i j with h1 | rfl | h1
  · exact .inr (.inl (h _ _ hi hj h1))
  · exact .inl rfl
  · exact .inr (.inr (h _ _ hj hi h1))
/-- What is sorted is told by its order. -/
theorem sort_uniq {l m : List THold} (hp : l.Perm m) (hm : m.Pairwise HLt) : sortF holdCmp l = m := by
  refine List.Perm.eq_of_pairwise (le := fun a b => ¬ HLt b a) ?_ ?_ ?_ ((sortF_perm holdCmp_swo l).trans hp)
  · intro a b ha hb h1 h2
    rcases sorted_tri hm (hp.mem_iff.1 ((sortF_perm holdCmp_swo l).mem_iff.1 ha)) hb with h | h | h
    · exact h
    · exact (h2 h).elim
    · exact (h1 h).elim
  · exact (sortF_sorted holdCmp_swo l).imp fun {a b} h => by rw [holdCmp_lt] at h; simpa [HLt] using h
  · exact hm.imp fun {a b} h k => by unfold HLt at *; omega

def rstep (r : Int) (s : Int) (h : THold) : Int := if h.Replica = r then max s (wr .i64 (h.Number + 1)) else s
def mstep (r : Int) (s : Int) (h : THold) : Int := if (decide (h.Replica = r) && decide (s < h.Number)) = true then h.Number else s
def NextN (l : List THold) (r : Int) : Int := l.foldl (rstep r) 1
theorem next_max (r : Int) : ∀ (l : List THold) (s : Int), (∀ h ∈ l, HOk h) → 0 ≤ s → s ≤ 1099511627776 → l.foldl (rstep r) (s + 1) = l.foldl (mstep r) s + 1 ∧ 0 ≤ l.foldl (mstep r) s ∧ l.foldl (mstep r) s ≤ 1099511627776 ∧ s ≤ l.foldl (mstep r) s ∧ ∀ h ∈ l, h.Replica = r → h.Number ≤ l.foldl (mstep r) s
  | [], s, _, h0, h1 => ⟨rfl, h0, h1, Int.le_refl _, fun h hm => by simp at hm⟩
  | h :: t, s, hl, h0, h1 => by
    have hh := hl h (by simp)
    have e : rstep r (s + 1) h = mstep r s h + 1 ∧ 0 ≤ mstep r s h ∧ mstep r s h ≤ 1099511627776 ∧ s ≤ mstep r s h ∧ (h.Replica = r → h.Number ≤ mstep r s h) := by
      unfold rstep mstep
      unfold HOk at hh
      rw [wr_id (by omega)]
      by_cases h2 : h.Replica = r
      · by_cases h3 : s < h.Number
        · simp [h2, h3]; omega
        · simp [h2, h3]; omega
      · simp [h2]; omega
    simp only [List.foldl_cons]
    rw [e.1]
    obtain ⟨a, b, c, d, f⟩ := next_max r t (mstep r s h) (fun x hx => hl x (by simp [hx])) e.2.1 e.2.2.1
    refine ⟨a, b, c, by omega, fun x hx hr => ?_⟩
    rcases List.mem_cons.1 hx with rfl | hx
    · have := e.2.2.2.2 hr; omega
    · exact f x hx hr

def newH (l : List THold) (r a d : Int) : THold := ⟨r, NextN l r, a, d, 1⟩
def ResS (l : List THold) (r a d : Int) : List THold × Int × Int :=
  if Rts l ∧ HOk (newH l r a d) then (if l.length = 16 then ([], 0, 7) else (putS l (newH l r a d), NextN l r, 0)) else ([], 0, 1)
theorem newH_off {l : List THold} {r a d : Int} (hl : ∀ h ∈ l, HOk h) : ∀ h ∈ l, Off h (newH l r a d) := by
  intro h hm ⟨h1, h2⟩
  have := next_max r l 0 hl (by omega) (by omega)
  have h3 := this.2.2.2.2 h hm h1
  have h4 := this.1
  simp only [newH, NextN] at h2
  have h5 : l.foldl (rstep r) (0 + 1) = l.foldl (rstep r) 1 := rfl
  omega
theorem ResS_ok {l : List THold} {r a d : Int} (h : Rts l) (h2 : HOk (newH l r a d)) (h3 : l.length ≠ 16) : ResS l r a d = (putS l (newH l r a d), NextN l r, 0) := by unfold ResS; rw [if_pos ⟨h, h2⟩, if_neg h3]
theorem ResS_full {l : List THold} {r a d : Int} (h : Rts l) (h2 : HOk (newH l r a d)) (h3 : l.length = 16) : ResS l r a d = ([], 0, 7) := by unfold ResS; rw [if_pos ⟨h, h2⟩, if_pos h3]
theorem ResS_no {l : List THold} {r a d : Int} (h : ¬ (Rts l ∧ HOk (newH l r a d))) : ResS l r a d = ([], 0, 1) := by unfold ResS; rw [if_neg h]
theorem hold_Reserve_eq (l : List THold) (r a d : Int) (hl : l.length ≤ 1000000000000) : hold_Reserve l r a d = some (ResS l r a d) := by
  unfold hold_Reserve
  rw [(loop_fold l.length (by omega) (fun s i => rstep r s (l.getD i default)) id (fun _ _ => True) trivial (fun i s hi _ => ⟨?_, trivial⟩) (fun s _ => by simp [hold_Reserve_L1])).1]
  · simp only [Option.bind, id]
    rw [foldl_range_list l default (rstep r) 1]
    simp only [letM_eq, hold_Rights_eq l (by omega), hold_Right_eq, gd]
    rw [show (⟨r, l.foldl (rstep r) 1, a, d, 1⟩ : THold) = newH l r a d from rfl]
    by_cases h : Rts l
    · by_cases h2 : HOk (newH l r a d)
      · simp only [h, h2, decide_true, Bool.not_true, if_true, Bool.or_self]
        rw [if_neg Bool.false_ne_true]
        by_cases h3 : l.length = 16
        · rw [if_pos (by simp [h3]), ResS_full h h2 h3]
        · rw [if_neg (by simp; omega), ResS_ok h h2 h3, app_of (by simp; omega)]
          simp only [List.nil_append]
          rw [app_of (by simp; omega)]
          simp only [sortM]
          rw [if_pos (by simp; omega), sort_uniq (m := putS l (newH l r a d)) (List.perm_append_comm.trans (putS_perm _ l).symm) (putS_sorted _ l h.2.1 (newH_off h.1))]
          rfl
      · rw [ResS_no (fun x => h2 x.2)]; simp [h, h2]
    · rw [ResS_no (fun x => h x.1)]; simp [h]
  · simp only [hold_Reserve_L1, six_of hi, letM_eq, Option.bind, rstep]
    rw [if_pos (by simp; omega)]
    simp only [wr_succ (show i < 1000000000000000 by omega)]
    by_cases h : (l.getD i default).Replica = r
    · rw [if_pos (by simpa only [decide_eq_true_eq] using h), if_pos h]
    · rw [if_neg (by simpa only [decide_eq_true_eq] using h), if_neg h]
end Go.Av
namespace Go.Av
set_option linter.unusedSectionVars false
set_option linter.unusedVariables false
set_option linter.unusedSimpArgs false

def val (r : Int) (h : THold) : Int := if h.Replica = r ∧ h.State = 1 then h.Amount else 0
theorem Rts_put {l : List THold} {x : THold} (h : Rts l) (hx : HOk x) (ho : ∀ h ∈ l, Off h x) (hn : l.length ≠ 16) : Rts (putS l x) := by
  refine ⟨fun y hy => ?_, putS_sorted x l h.2.1 ho, ?_⟩
  · rcases putS_mem.1 hy with rfl | hy
    · exact hx
    · exact h.1 y hy
  · have := h.2.2
    rw [putS_length]; omega

end Go.Av
namespace Go.Av
set_option linter.unusedSectionVars false
set_option linter.unusedVariables false
set_option linter.unusedSimpArgs false

def bump (x h : THold) : THold := { x with State := max x.State h.State }
def upd (l : List THold) (h : THold) : List THold := l.map fun x => if isK h.Replica h.Number x = true then bump x h else x
def fits (x h : THold) : Prop := x.Amount = h.Amount ∧ x.Due = h.Due
instance (x h : THold) : Decidable (fits x h) := by unfold fits; infer_instance
def lookH (l : List THold) (r n : Int) : Option THold := l.find? (isK r n)
def jstep (ins : List THold → THold → List THold) (m : List THold) (h : THold) : Option (List THold) :=
  match lookH m h.Replica h.Number with
  | none => some (ins m h)
  | some x => if fits x h then some (upd m h) else none

theorem isK_iff {r n : Int} {x : THold} : isK r n x = true ↔ x.Replica = r ∧ x.Number = n := by simp [isK]
theorem Off.symm {a b : THold} (h : Off a b) : Off b a := by unfold Off at *; omega
theorem lookH_none {l : List THold} {r n : Int} : lookH l r n = none ↔ ∀ x ∈ l, ¬ (x.Replica = r ∧ x.Number = n) := by
  rw [lookH, List.find?_eq_none]
  exact ⟨fun h x hx hk => h x hx (isK_iff.2 hk), fun h x hx hk => h x hx (isK_iff.1 hk)⟩
theorem upd_off {l : List THold} (h : THold) (ho : l.Pairwise Off) : (upd l h).Pairwise Off := by
  unfold upd
  rw [List.pairwise_map]
  refine ho.imp fun {a b} k => ?_
  unfold Off at *
  split <;> split <;> exact k
end Go.Av
namespace Go.Av
set_option linter.unusedSectionVars false
set_option linter.unusedVariables false
set_option linter.unusedSimpArgs false

theorem upd_key (s : List THold) (h : THold) (j : Nat) : ((upd s h).getD j default).Replica = (s.getD j default).Replica ∧ ((upd s h).getD j default).Number = (s.getD j default).Number := by
  unfold upd
  rw [List.getD, List.getD, List.getElem?_map]
  cases s[j]? with
  | none => exact ⟨rfl, rfl⟩
  | some x => simp only [Option.map_some, Option.getD_some]; split <;> exact ⟨rfl, rfl⟩
def InvJ (a b : List THold) (i : Nat) (s : List THold) : Prop :=
  s.Pairwise Off ∧ a.length ≤ s.length ∧ s.length ≤ a.length + i ∧ (∀ j, j < a.length → (s.getD j default).Replica = (a.getD j default).Replica ∧ (s.getD j default).Number = (a.getD j default).Number) ∧
    ∀ j, a.length ≤ j → j < s.length → ∃ q, q < i ∧ (s.getD j default).Replica = (b.getD q default).Replica ∧ (s.getD j default).Number = (b.getD q default).Number

theorem InvJ.step {a b s s' : List THold} {i : Nat} (hJ : InvJ a b i s) (hi : i < b.length) (hs : jstep (fun l h => l ++ [h]) s (b.getD i default) = some s') : InvJ a b (i + 1) s' := by
  obtain ⟨h1, h2, h3, h4, h5⟩ := hJ
  unfold jstep at hs
  cases hl : lookH s (b.getD i default).Replica (b.getD i default).Number with
  | none =>
    rw [hl] at hs; simp only [Option.some.injEq] at hs; subst hs
    have hn := lookH_none.1 hl
    refine ⟨?_, by simp; omega, by simp; omega, fun j hj => ?_, fun j hj hj2 => ?_⟩
    · rw [List.pairwise_append]
      refine ⟨h1, by simp, fun x hx y hy => ?_⟩
      rw [List.mem_singleton.1 hy]
      exact fun k => hn x hx k
    · rw [show (s ++ [b.getD i default]).getD j default = s.getD j default by rw [List.getD, List.getElem?_append_left (by omega)]; rfl]
      exact h4 j hj
    · by_cases hj3 : j < s.length
      · rw [show (s ++ [b.getD i default]).getD j default = s.getD j default by rw [List.getD, List.getElem?_append_left hj3]; rfl]
        obtain ⟨q, h6, h7⟩ := h5 j hj hj3
        exact ⟨q, by omega, h7⟩
      · simp only [List.length_append, List.length_singleton] at hj2
        obtain rfl : j = s.length := by omega
        rw [show (s ++ [b.getD i default]).getD s.length default = b.getD i default by rw [List.getD, List.getElem?_append_right (Nat.le_refl _), Nat.sub_self]; rfl]
        exact ⟨i, by omega, rfl, rfl⟩
  | some x =>
    rw [hl] at hs; simp only at hs
    split at hs
    · simp only [Option.some.injEq] at hs; subst hs
      have hle : (upd s (b.getD i default)).length = s.length := by simp only [upd, List.length_map]
      refine ⟨upd_off _ h1, by omega, by omega, fun j hj => ?_, fun j hj hj2 => ?_⟩
      · rw [(upd_key s _ j).1, (upd_key s _ j).2]; exact h4 j hj
      · obtain ⟨q, h6, h7⟩ := h5 j hj (by omega)
        exact ⟨q, by omega, by rw [(upd_key s _ j).1, (upd_key s _ j).2]; exact h7⟩
    · cases hs

end Go.Av
namespace Go.Av
set_option linter.unusedSectionVars false
set_option linter.unusedVariables false
set_option linter.unusedSimpArgs false

def cf : Option THold → Option THold → Prop
  | some x, some y => ¬ fits x y
  | _, _ => False
theorem fits.symm {x y : THold} (h : fits x y) : fits y x := ⟨h.1.symm, h.2.symm⟩

end Go.Av
namespace Go.Av
set_option linter.unusedSectionVars false
set_option linter.unusedVariables false
set_option linter.unusedSimpArgs false

theorem checked_eq (a : Int) (l : List Int) (hl : l.length ≤ 1000000000000) : num_checked a l = some (if ∀ x ∈ l ++ [a], IsN x then (a, 0) else (0, 2)) := by
  unfold num_checked
  rw [app_of (by simp; omega)]
  simp only [Option.bind]
  have hn : (l ++ [a]).length ≤ 1000000000000000 := by simp; omega
  generalize l ++ [a] = m at hn
  rw [loop_all m.length hn (fun i => IsN (m.getD i default)) (0, 2) () (fun i hi => ?_) (by simp [num_checked_L1])]
  · by_cases h : ∀ x ∈ m, IsN x
    · rw [if_pos (fun i hi => h _ (by simp [List.getD, hi])), if_pos h]; rfl
    · rw [if_neg (fun h2 => h fun x hx => by obtain ⟨i, hi, rfl⟩ := List.getElem_of_mem hx; simpa [List.getD, hi] using h2 i hi), if_neg h]; rfl
  · simp only [num_checked_L1, six_of hi, num_Is_eq, Option.bind]
    rw [if_pos (by simp; omega)]
    simp only [wr_succ (show i < 1000000000000000 by omega)]
    by_cases h : IsN (m.getD i default)
    · rw [if_neg (by rw [decide_eq_true h]; decide), if_pos h]
    · rw [if_pos (by rw [decide_eq_false h]; rfl), if_neg h]

def addS (a b : Int) : Int × Int := if IsN a ∧ IsN b ∧ IsN (a + b) then (a + b, 0) else (0, 2)
theorem num_Add_eq (a b : Int) : num_Add a b = some (addS a b) := by
  unfold num_Add addS
  rw [checked_eq _ _ (by simp)]
  simp only [Option.bind]
  by_cases h : IsN a ∧ IsN b
  · have hw : wr .i64 (a + b) = a + b := wr_id (by unfold IsN at h; omega)
    rw [hw]
    by_cases h2 : IsN (a + b)
    · rw [if_pos (by simp [h.1, h.2, h2]), if_pos ⟨h.1, h.2, h2⟩]
    · rw [if_neg (by simp [h.1, h.2, h2]), if_neg (fun x => h2 x.2.2)]
  · rw [if_neg (fun x => h ⟨x a (by simp), x b (by simp)⟩), if_neg (fun x => h ⟨x.1, x.2.1⟩)]
theorem ref_Add_eq (a b : Int) : usufructref01_Add a b = some (addS a b) := by
  unfold usufructref01_Add addS
  simp only [ref_Is_eq, Option.bind]
  by_cases h1 : IsN a
  · rw [gd_t (by rw [decide_eq_true h1]; rfl)]
    simp only []
    by_cases h2 : IsN b
    · have hw : wr .i64 (a + b) = a + b := wr_id (by unfold IsN at h1 h2; omega)
      rw [hw, gd_t (by rw [decide_eq_true h1, decide_eq_true h2]; rfl)]
      simp only []
      by_cases h3 : IsN (a + b)
      · rw [if_neg (by rw [decide_eq_true h1, decide_eq_true h2, decide_eq_true h3]; decide), if_pos ⟨h1, h2, h3⟩]
      · rw [if_pos (by rw [decide_eq_false h3]; simp), if_neg (fun x => h3 x.2.2)]
    · rw [gd_f (by rw [decide_eq_false h2]; simp)]
      simp only []
      rw [if_pos (by rw [decide_eq_false h2]; simp), if_neg (fun x => h2 x.2.1)]
  · rw [gd_f (by rw [decide_eq_false h1]; decide)]
    simp only []
    rw [gd_f (by rw [decide_eq_false h1]; simp)]
    simp only []
    rw [if_pos (by rw [decide_eq_false h1]; simp), if_neg (fun x => h1 x.1)]

/-- All, added; none, if it is too great on the way. -/
def sumO : Int → List Int → Option Int
  | n, [] => some n
  | n, x :: t => if (addS n x).2 = 0 then sumO (addS n x).1 t else none
def sumS (l : List Int) : Int × Int := match sumO 0 l with | some n => (n, 0) | none => (0, 2)
theorem addS_err (a b : Int) (h : (addS a b).2 ≠ 0) : (addS a b).2 = 2 := by
  by_cases hc : IsN a ∧ IsN b ∧ IsN (a + b)
  · rw [addS, if_pos hc] at h; exact (h rfl).elim
  · rw [addS, if_neg hc]
theorem sum_loop' (l : List Int) {ρ : Type} {body : Int × Int → Option ((Int × Int) ⊕ ρ)} (fin : Int → Option ρ) (er : Option ρ)
    (hb : ∀ (i : Nat) (n : Int), i < l.length → body ((i : Int), n) = if (addS n (l.getD i default)).2 = 0 then some (.inl ((((i + 1 : Nat)) : Int), (addS n (l.getD i default)).1)) else er.map .inr) (hf : ∀ n, body ((l.length : Int), n) = (fin n).map .inr) :
    ∀ (k i : Nat) (n : Int), i + k = l.length → ∀ m, k < m → loopM body m ((i : Int), n) = match sumO n (l.drop i) with | some n => fin n | none => er
  | k, i, n, hk, 0, hm => by omega
  | 0, i, n, hk, m + 1, hm => by
    obtain rfl : i = l.length := by omega
    rw [List.drop_length]
    simp only [loopM, hf, sumO]
    cases fin n <;> rfl
  | k + 1, i, n, hk, m + 1, hm => by
    have hi : i < l.length := by omega
    have hd : l.drop i = l.getD i default :: l.drop (i + 1) := by rw [List.drop_eq_getElem_cons hi]; simp [List.getD, hi]
    rw [hd, sumO]
    simp only [loopM, hb i n hi]
    by_cases h : (addS n (l.getD i default)).2 = 0
    · rw [if_pos h, if_pos h]
      exact sum_loop' l fin er hb hf k (i + 1) _ (by omega) m (by omega)
    · rw [if_neg h, if_neg h]
      cases er <;> rfl
theorem sum_loop (l : List Int) (hl : l.length ≤ 1000000000000) {ρ : Type} {body : Int × Int → Option ((Int × Int) ⊕ ρ)} (fin : Int → Option ρ) (er : Option ρ)
    (hb : ∀ (i : Nat) (n : Int), i < l.length → body ((i : Int), n) = if (addS n (l.getD i default)).2 = 0 then some (.inl ((((i + 1 : Nat)) : Int), (addS n (l.getD i default)).1)) else er.map .inr) (hf : ∀ n, body ((l.length : Int), n) = (fin n).map .inr) :
    loopM body fuel (0, 0) = match sumO 0 l with | some n => fin n | none => er :=
  sum_loop' l fin er hb hf l.length 0 0 (by omega) fuel (by have := fuel_big; omega)
theorem ref_Sum_eq1 (l : List Int) (hl : l.length ≤ 1000000000000) : usufructref01_Sum l = some (sumS l) := by
  unfold usufructref01_Sum sumS
  rw [sum_loop l hl (fun n => some (.inl n : Int ⊕ (Int × Int))) (some (.inr (0, 2))) (fun i n hi => ?_) (fun n => by simp [usufructref01_Sum_L1])]
  · cases sumO 0 l <;> rfl
  · simp only [usufructref01_Sum_L1, six_of hi, ref_Add_eq, Option.bind]
    rw [if_pos (by simp; omega)]
    simp only [wr_succ (show i < 1000000000000000 by omega)]
    by_cases h : (addS n (l.getD i default)).2 = 0
    · rw [if_neg (by rw [decide_eq_true h]; decide), if_pos h]
    · rw [if_pos (by rw [decide_eq_false h]; rfl), if_neg h, addS_err _ _ h]; rfl
theorem num_Sum_eq (l : List Int) (hl : l.length ≤ 1000000000000) : num_Sum l = some (sumS l) := by
  have h1 : num_Sum_1 l = sumO 0 l := by
    unfold num_Sum_1
    rw [sum_loop l hl (fun n => some n) none (fun i n hi => ?_) (fun n => by simp [num_Sum_1_L1])]
    · cases sumO 0 l <;> rfl
    · simp only [num_Sum_1_L1, six_of hi, num_Add_eq, num_Must, Option.bind]
      rw [if_pos (by simp; omega)]
      simp only [wr_succ (show i < 1000000000000000 by omega)]
      by_cases h : (addS n (l.getD i default)).2 = 0
      · rw [if_neg (by rw [decide_eq_true h]; decide), if_pos h]
      · rw [if_pos (by rw [decide_eq_false h]; rfl), if_neg h]; rfl
  have h2 : num_Sum_P l = match sumO 0 l with | some _ => none | none => some 2 := by
    unfold num_Sum_P
    rw [sum_loop l hl (fun n => none) (some 2) (fun i n hi => ?_) (fun n => by simp [num_Sum_P_L1])]
    simp only [num_Sum_P_L1, six_of hi, num_Add_eq, Option.bind]
    rw [if_pos (by simp; omega)]
    simp only [wr_succ (show i < 1000000000000000 by omega)]
    by_cases h : (addS n (l.getD i default)).2 = 0
    · rw [if_pos (by rw [decide_eq_true h]), if_pos h]
    · rw [if_neg (by rw [decide_eq_false h]; decide), if_neg h, addS_err _ _ h]; rfl
  unfold num_Sum sumS
  rw [h1, h2]
  cases sumO 0 l <;> rfl
end Go.Av
namespace Go.Av
set_option linter.unusedSectionVars false
set_option linter.unusedVariables false
set_option linter.unusedSimpArgs false

def VOk (v : Vector Int 16) : Prop := ∀ k : Fin 16, 0 ≤ v.get k ∧ v.get k ≤ 1099511627776
instance (v : Vector Int 16) : Decidable (VOk v) := by unfold VOk; infer_instance
def at16 (v : Vector Int 16) (i : Nat) : Int := if h : i < 16 then v.get ⟨i, h⟩ else 0
theorem VOk_iff (v : Vector Int 16) : (∀ i, i < 16 → 0 ≤ at16 v i ∧ at16 v i ≤ 1099511627776) ↔ VOk v := by
  constructor
  · intro h k
    have := h k.1 k.2
    unfold at16 at this
    rw [dif_pos k.2] at this
    exact this
  · intro h i hi
    unfold at16
    rw [dif_pos hi]
    exact h ⟨i, hi⟩
theorem ref02_Right_eq (v : Vector Int 16) : usufructref02_Right v = some (decide (VOk v)) := by
  unfold usufructref02_Right
  rw [loop_all 16 (by omega) (fun i => 0 ≤ at16 v i ∧ at16 v i ≤ 1099511627776) false () (fun i hi => ?_) (by simp [usufructref02_Right_L1])]
  · by_cases h : VOk v
    · rw [if_pos ((VOk_iff v).2 h), decide_eq_true h]; rfl
    · rw [if_neg (fun k => h ((VOk_iff v).1 k)), decide_eq_false h]; rfl
  · have e : at16 v i = v.get ⟨i, hi⟩ := by unfold at16; rw [dif_pos hi]
    simp only [usufructref02_Right_L1, fix_of hi, Option.bind, e]
    rw [if_pos (by simp; omega)]
    simp only [wr_succ (show i < 1000000000000000 by omega)]
    by_cases h1 : v.get ⟨i, hi⟩ < 0
    · rw [gd_f (by rw [decide_eq_true h1]; decide)]
      simp only []
      rw [if_pos (by rw [decide_eq_true h1]; rfl), if_neg (by omega)]
    · rw [gd_t (by rw [decide_eq_false h1])]
      simp only []
      by_cases h2 : 1099511627776 < v.get ⟨i, hi⟩
      · rw [if_pos (by rw [decide_eq_true h2]; simp), if_neg (by omega)]
      · rw [if_neg (by rw [decide_eq_false h1, decide_eq_false h2]; decide), if_pos (by omega)]
theorem ref02_Sum_eq (v : Vector Int 16) : usufructref02_Sum v = some (sumS v.toList) := by
  unfold usufructref02_Sum
  rw [ref_Sum_eq1 _ (by simp)]; rfl

def ROk (r : TRights) : Prop := VOk r.Given ∧ VOk r.Used ∧ ∀ k : Fin 16, VOk (r.Moved.get k) ∧ (r.Moved.get k).get k = 0
instance (r : TRights) : Decidable (ROk r) := by unfold ROk; infer_instance
def row (r : TRights) (i : Nat) : Prop := ∀ h : i < 16, VOk (r.Moved.get ⟨i, h⟩) ∧ (r.Moved.get ⟨i, h⟩).get ⟨i, h⟩ = 0
instance (r : TRights) (i : Nat) : Decidable (row r i) := by unfold row; infer_instance
theorem ref03_Right_eq (r : TRights) : usufructref03_Right r = some (decide (ROk r)) := by
  unfold usufructref03_Right
  rw [ref02_Right_eq, ref02_Right_eq]
  have hb : ∀ b : Bool, loopM (usufructref03_Right_L1 r) fuel (0, b) = some (b && decide (∀ i : Nat, i < 16 → row r i)) := fun b => by
    refine loopM_eq (fun i s => s = ((i : Int), b && decide (∀ j, j < i → row r j))) 16 (by omega) _ ?_ ?_ (by simp)
    · rintro i s hi rfl
      refine .inl ⟨_, ?_, rfl⟩
      have hsucc : (∀ j, j < i + 1 → row r j) ↔ (∀ j, j < i → row r j) ∧ row r i :=
        ⟨fun h => ⟨fun j hj => h j (by omega), h i (by omega)⟩, fun h j hj => by rcases Nat.lt_succ_iff_lt_or_eq.1 hj with h2 | rfl; exact h.1 j h2; exact h.2⟩
      have hrow : row r i ↔ VOk (r.Moved.get ⟨i, hi⟩) ∧ (r.Moved.get ⟨i, hi⟩).get ⟨i, hi⟩ = 0 := ⟨fun h => h hi, fun h _ => h⟩
      simp only [usufructref03_Right_L1, fix_of hi, Option.bind]
      rw [if_pos (by simp; omega)]
      simp only [wr_succ (show i < 1000000000000000 by omega), letM_eq]
      generalize hB : (b && decide (∀ j, j < i → row r j)) = B
      have hR : (b && decide (∀ j, j < i + 1 → row r j)) = (B && decide (row r i)) := by
        rw [← hB]
        apply Bool.eq_iff_iff.2
        simp only [Bool.and_eq_true, decide_eq_true_eq, hsucc]
        exact ⟨fun h => ⟨⟨h.1, h.2.1⟩, h.2.2⟩, fun h => ⟨h.1.1, h.1.2, h.2⟩⟩
      rw [hR]
      cases B with
      | false => simp [gd]
      | true =>
        rw [gd_t rfl]
        simp only []
        rw [gd_t trivial, ref02_Right_eq]
        simp only [Bool.true_and]
        by_cases h1 : VOk (r.Moved.get ⟨i, hi⟩)
        · rw [gd_t (decide_eq_true h1)]
          simp only []
          by_cases h2 : (r.Moved.get ⟨i, hi⟩).get ⟨i, hi⟩ = 0
          · rw [decide_eq_true h1, decide_eq_true h2, decide_eq_true (hrow.2 ⟨h1, h2⟩)]; rfl
          · rw [decide_eq_false h2, decide_eq_false (fun k => h2 (hrow.1 k).2), Bool.and_false]
        · rw [gd_f (by rw [decide_eq_false h1]; decide)]
          simp only []
          rw [decide_eq_false h1, decide_eq_false (fun k => h1 (hrow.1 k).1)]; rfl
    · rintro s rfl
      simp [usufructref03_Right_L1]
  have hrows : (∀ i : Nat, i < 16 → row r i) ↔ ∀ k : Fin 16, VOk (r.Moved.get k) ∧ (r.Moved.get k).get k = 0 :=
    ⟨fun h k => h k.1 k.2 k.2, fun h i hi _ => h ⟨i, hi⟩⟩
  simp only [Option.bind, gd_and]
  rw [hb]
  refine sd ?_
  simp only [Bool.and_eq_true, Bool.if_false_right, decide_eq_true_eq, hrows]
  unfold ROk
  exact ⟨fun h => ⟨h.1.1, h.1.2.2, h.2⟩, fun h => ⟨⟨h.1, h.1, h.2.1⟩, h.2.2⟩⟩

/-- What was given is what must be. -/
def gives (g u : Vector Int 16) (room : Int) : Prop := (sumS g.toList).2 = 0 ∧ (sumS u.toList).2 = 0 ∧ (addS room (sumS u.toList).1).2 = 0 ∧ (sumS g.toList).1 = (addS room (sumS u.toList).1).1
instance (g u : Vector Int 16) (room : Int) : Decidable (gives g u room) := by unfold gives; infer_instance
def COk (c : TCounter) : Prop := IsN c.Init ∧ IsN c.Low ∧ IsN c.High ∧ c.Low ≤ c.Init ∧ c.Init ≤ c.High ∧ ROk c.Down ∧ ROk c.Up ∧ gives c.Down.Given c.Up.Used (c.Init - c.Low) ∧ gives c.Up.Given c.Down.Used (c.High - c.Init)
instance (c : TCounter) : Decidable (COk c) := by unfold COk; infer_instance
theorem gd_nb {p : Prop} [Decidable p] {b : Bool} : gd p (some b) = some (if p then b else false) := by by_cases h : p <;> simp [gd, h]
theorem ref04_Right_eq (c : TCounter) : usufructref04_Right c = some (decide (COk c)) := by
  unfold usufructref04_Right
  simp only [ref_Is_eq, ref03_Right_eq, ref02_Sum_eq, ref_Add_eq, Option.bind, gd_nb, letM_eq]
  by_cases h : IsN c.Init ∧ IsN c.Low ∧ IsN c.High ∧ c.Low ≤ c.Init ∧ c.Init ≤ c.High ∧ ROk c.Down ∧ ROk c.Up
  · obtain ⟨h1, h2, h3, h4, h5, h6, h7⟩ := h
    have w1 : wr .i64 (c.Init - c.Low) = c.Init - c.Low := wr_id (by unfold IsN at *; omega)
    have w2 : wr .i64 (c.High - c.Init) = c.High - c.Init := wr_id (by unfold IsN at *; omega)
    rw [if_neg (by simp [h1, h2, h3, h6, h7]; omega), w1, w2]
    refine sd ?_
    simp only [Bool.and_eq_true, decide_eq_true_eq, and_assoc]
    unfold COk gives
    constructor
    · rintro ⟨a, b, d, e, f, g, i, j⟩
      exact ⟨h1, h2, h3, h4, h5, h6, h7, ⟨a, b, d, i⟩, e, f, g, j⟩
    · rintro ⟨_, _, _, _, _, _, _, ⟨a, b, d, i⟩, e, f, g, j⟩
      exact ⟨a, b, d, e, f, g, i, j⟩
  · have hn : ¬ COk c := fun k => h ⟨k.1, k.2.1, k.2.2.1, k.2.2.2.1, k.2.2.2.2.1, k.2.2.2.2.2.1, k.2.2.2.2.2.2.1⟩
    rw [if_pos, decide_eq_false hn]
    by_cases h1 : IsN c.Init <;> by_cases h2 : IsN c.Low <;> by_cases h3 : IsN c.High <;> by_cases h4 : c.Init < c.Low <;> by_cases h5 : c.High < c.Init <;> by_cases h6 : ROk c.Down <;> by_cases h7 : ROk c.Up <;> simp [h1, h2, h3, h4, h5, h6, h7]
    exact h ⟨h1, h2, h3, by omega, by omega, h6, h7⟩
end Go.Av
namespace Go.Av
set_option linter.unusedSectionVars false
set_option linter.unusedVariables false
set_option linter.unusedSimpArgs false

theorem foldl_app {α : Type} (g : Nat → α) : ∀ (n : Nat) (l : List α), (List.range n).foldl (fun s i => s ++ [g i]) l = l ++ (List.range n).map g
  | 0, l => by simp
  | n + 1, l => by rw [List.range_succ, List.foldl_append, foldl_app g n l]; simp
def negs (v : Vector Int 16) : List Int := (List.range 16).map fun i => wr .i64 (0 - at16 v i)
/-- A loop that puts sixteen numbers behind others. -/
theorem app_loop {body : Int × List Int → Option ((Int × List Int) ⊕ List Int)} (g : Nat → Int) (l : List Int) (hl : l.length ≤ 1000000) (hb : ∀ (i : Nat) (s : List Int), i < 16 → s.length ≤ 1000016 → body ((i : Int), s) = some (.inl ((((i + 1 : Nat)) : Int), s ++ [g i]))) (hf : ∀ s, body ((16 : Int), s) = some (.inr s)) :
    loopM body fuel (0, l) = some (l ++ (List.range 16).map g) := by
  rw [(loop_fold 16 (by omega) (fun s i => s ++ [g i]) id (fun i s => s.length = l.length + i) rfl (fun i s hi hJ => ⟨hb i s hi (by omega), by simp; omega⟩) (fun s _ => hf s)).1]
  simp only [id]
  rw [foldl_app]
end Go.Av
namespace Go.Av
set_option linter.unusedSectionVars false
set_option linter.unusedVariables false
set_option linter.unusedSimpArgs false

def rowAt (r : TRights) (i : Nat) : Vector Int 16 := if h : i < 16 then r.Moved.get ⟨i, h⟩ else default
def freeL (r : TRights) (k : Nat) : List Int := [at16 r.Given k] ++ (List.range 16).map (fun i => at16 (rowAt r i) k) ++ [wr .i64 (0 - at16 r.Used k)] ++ negs (rowAt r k)
def freeS (r : TRights) (k : Int) : Int × Int := if 0 ≤ k ∧ k < 16 then sumS (freeL r k.toNat) else (0, 1)
theorem at16_of (v : Vector Int 16) {i : Nat} (hi : i < 16) : at16 v i = v.get ⟨i, hi⟩ := by unfold at16; rw [dif_pos hi]
theorem rowAt_of (r : TRights) {i : Nat} (hi : i < 16) : rowAt r i = r.Moved.get ⟨i, hi⟩ := by unfold rowAt; rw [dif_pos hi]
theorem less_eq (v : Vector Int 16) : rights_less v = some (negs v) := by
  unfold rights_less
  rw [app_loop (fun i => wr .i64 (0 - at16 v i)) _ (by simp) (fun i s hi hs => ?_) (fun s => by simp [rights_less_L1])]
  · simp [negs]
  · simp only [rights_less_L1, fix_of hi, Option.bind]
    rw [if_pos (by simp; omega), app_of (by simp; omega)]
    simp only [wr_succ (show i < 1000000000000000 by omega), at16_of v hi]
theorem rights_Free_eq (r : TRights) (k : Int) : rights_Free r k = some (freeS r k) := by
  unfold rights_Free freeS
  have his : rights_is k = some (decide (0 ≤ k ∧ k < 16)) := sd (by simp)
  rw [his]
  simp only [Option.bind]
  by_cases hk : 0 ≤ k ∧ k < 16
  · obtain ⟨n, rfl⟩ : ∃ n : Nat, k = (n : Int) := ⟨k.toNat, by omega⟩
    have hn : n < 16 := by omega
    rw [if_neg (by rw [decide_eq_true hk]; decide), if_pos hk, fix_of hn]
    simp only []
    rw [app_loop (fun i => at16 (rowAt r i) n) _ (by simp) (fun i s hi hs => ?_) (fun s => by simp [rights_Free_L1])]
    · simp only []
      rw [app_of (by simp)]
      simp only [letM_eq, less_eq]
      rw [app_of (by simp [negs])]
      simp only []
      have e : [r.Given.get ⟨n, hn⟩] ++ (List.range 16).map (fun i => at16 (rowAt r i) n) ++ [wr .i64 (0 - r.Used.get ⟨n, hn⟩)] ++ negs (r.Moved.get ⟨n, hn⟩) = freeL r n := by
        unfold freeL; rw [at16_of _ hn, at16_of _ hn, rowAt_of r hn]
      rw [e, num_Sum_eq _ (by simp [freeL, negs])]
      rfl
    · simp only [rights_Free_L1, fix_of hi, fix_of hn, Option.bind, letM_eq]
      rw [if_pos (by simp; omega), app_of (by simp; omega)]
      simp only [wr_succ (show i < 1000000000000000 by omega), rowAt_of r hi, at16_of _ hn]
  · rw [if_pos (by rw [decide_eq_false hk]; rfl), if_neg hk]
end Go.Av
namespace Go.Av
set_option linter.unusedSectionVars false
set_option linter.unusedVariables false
set_option linter.unusedSimpArgs false

theorem awake7_eq : usufructlaw07_awake = some true := by decide +kernel

def bAt (s : ByteArray) (i : Nat) : Int := (bix s (i : Int)).getD 0
theorem bix_of {s : ByteArray} {i : Nat} (h : i < s.size) : bix s (i : Int) = some (bAt s i) := by
  unfold bAt bix
  rw [dif_pos (by omega)]
  rfl
def NameOk (s : ByteArray) : Prop := (∀ i : Nat, i < s.size → 33 ≤ bAt s i ∧ bAt s i ≤ 126) ∧ 1 ≤ s.size ∧ s.size ≤ 8
instance (s : ByteArray) : Decidable (NameOk s) := by unfold NameOk; infer_instance
theorem ref_Name_eq (s : ByteArray) (hs : s.size ≤ 1000000000000000) : usufructref07_Name s = some (decide (NameOk s)) := by
  unfold usufructref07_Name
  rw [loop_all s.size hs (fun i => 33 ≤ bAt s i ∧ bAt s i ≤ 126) false () (fun i hi => ?_) (by simp [usufructref07_Name_L1])]
  · by_cases h : ∀ i : Nat, i < s.size → 33 ≤ bAt s i ∧ bAt s i ≤ 126
    · rw [if_pos h]
      refine sd ?_
      simp only [NameOk, Bool.and_eq_true, decide_eq_true_eq]
      exact ⟨fun k => ⟨h, by omega, by omega⟩, fun k => ⟨by omega, by omega⟩⟩
    · rw [if_neg h, decide_eq_false (p := NameOk s) (fun k => h k.1)]; rfl
  · simp only [usufructref07_Name_L1, bix_of hi, Option.bind]
    rw [if_pos (by simp; omega)]
    simp only [wr_succ (show i < 1000000000000000 by omega)]
    by_cases h1 : bAt s i < 33
    · rw [gd_f (by rw [decide_eq_true h1]; decide)]
      simp only []
      rw [if_pos (by rw [decide_eq_true h1]; rfl), if_neg (by omega)]
    · rw [gd_t (by rw [decide_eq_false h1])]
      simp only []
      by_cases h2 : 126 < bAt s i
      · rw [if_pos (by rw [decide_eq_true h2]; simp), if_neg (by omega)]
      · rw [if_neg (by rw [decide_eq_false h1, decide_eq_false h2]; decide), if_pos (by omega)]
def cnt (x : Int) : Prop := 0 ≤ x ∧ IsN x
instance (x : Int) : Decidable (cnt x) := by unfold cnt; infer_instance
def LOk (l : TLock) : Prop := cnt l.Seq ∧ cnt l.Ver ∧ 0 ≤ l.Holder ∧ l.Holder ≤ 15 ∧ IsN l.Value
instance (l : TLock) : Decidable (LOk l) := by unfold LOk; infer_instance
theorem ref05_Right_eq (l : TLock) : usufructref05_Right l = some (decide (LOk l)) := by
  unfold usufructref05_Right
  simp only [ref_Is_eq, gd_and, letM_eq, Option.bind]
  refine sd ?_
  simp only [Bool.and_eq_true, Bool.if_false_right, decide_eq_true_eq]
  unfold LOk cnt IsN
  omega

def zeroC : TCounter := ⟨0, 0, 0, default, default⟩
def zeroL : TLock := ⟨0, 0, 0, 0⟩
def FOk (f : TField) : Prop := NameOk f.Name ∧ cnt f.Epoch ∧ ((f.Kind = 1 ∧ COk f.Counter ∧ Rts f.Holds ∧ f.Lock = zeroL) ∨ (f.Kind = 2 ∧ LOk f.Lock ∧ f.Holds = [] ∧ f.Counter = zeroC))
instance (f : TField) : Decidable (FOk f) := by unfold FOk; infer_instance
theorem ref07_Right_eq (f : TField) (hs : f.Name.size ≤ 1000000000000000) (hh : f.Holds.length ≤ 1000000000000) : usufructref07_Right f = some (decide (FOk f)) := by
  unfold usufructref07_Right
  simp only [ref_Name_eq _ hs, ref_Is_eq, Option.bind, gd_nb, letM_eq, ref04_Right_eq, ref_Rights_eq f.Holds (by omega), ref05_Right_eq]
  by_cases h : NameOk f.Name ∧ cnt f.Epoch
  · obtain ⟨h1, h2⟩ := h
    have h3 : ¬ f.Epoch < 0 := by unfold cnt at h2; omega
    rw [if_neg (by simp [h1, h2.2, h3])]
    by_cases hk : f.Kind = 1
    · rw [if_pos (by simp [hk])]
      refine sd ?_
      simp only [Bool.and_eq_true, decide_eq_true_eq, Bool.if_false_right]
      unfold FOk
      constructor
      · rintro ⟨⟨a, b, c⟩, d⟩
        exact ⟨h1, h2, .inl ⟨hk, a, c, d⟩⟩
      · rintro ⟨_, _, ⟨_, a, b, c⟩ | ⟨a, _⟩⟩
        · exact ⟨⟨a, a, b⟩, c⟩
        · omega
    · rw [if_neg (by simp [hk])]
      refine sd ?_
      simp only [Bool.and_eq_true, decide_eq_true_eq, Bool.if_false_right]
      unfold FOk
      have hz : ((f.Holds.length : Int) = 0) ↔ f.Holds = [] := by
        rw [← List.length_eq_zero_iff]; omega
      rw [hz]
      constructor
      · rintro ⟨⟨⟨a, a', b⟩, c⟩, d⟩
        exact ⟨h1, h2, .inr ⟨a, b, c, d⟩⟩
      · rintro ⟨_, _, ⟨a, _⟩ | ⟨a, b, c, d⟩⟩
        · omega
        · exact ⟨⟨⟨a, a, b⟩, c⟩, d⟩
  · have hn : ¬ FOk f := fun k => h ⟨k.1, k.2.1⟩
    rw [if_pos, decide_eq_false hn]
    by_cases h1 : NameOk f.Name <;> by_cases h2 : f.Epoch < 0 <;> by_cases h3 : IsN f.Epoch <;> simp [h1, h2, h3]
    exact h ⟨h1, by unfold cnt; exact ⟨by omega, h3⟩⟩
end Go.Av
namespace Go.Av
set_option linter.unusedSectionVars false
set_option linter.unusedVariables false
set_option linter.unusedSimpArgs false

def only (d : Int) : Vector Int 16 := (default : Vector Int 16).set 0 d
def NewOk (i l h : Int) : Prop := IsN i ∧ IsN l ∧ IsN h ∧ l ≤ i ∧ i ≤ h ∧ IsN (h - l)
instance (i l h : Int) : Decidable (NewOk i l h) := by unfold NewOk; infer_instance
def LNewOk (k v : Int) : Prop := (0 ≤ k ∧ k < 16) ∧ IsN v
instance (k v : Int) : Decidable (LNewOk k v) := by unfold LNewOk; infer_instance
end Go.Av
namespace Go.Av
set_option linter.unusedSectionVars false
set_option linter.unusedVariables false
set_option linter.unusedSimpArgs false

theorem fix_int {k : Nat} {n : Int} (h0 : 0 ≤ n) (h1 : n < (k : Int)) : fix_ k n = some ⟨n.toNat, by omega⟩ := by unfold fix_; rw [dif_pos ⟨h0, h1⟩]
def set16 (v : Vector Int 16) (i : Nat) (x : Int) : Vector Int 16 := if h : i < 16 then v.set i x h else v
theorem set16_of (v : Vector Int 16) {i : Nat} (hi : i < 16) (x : Int) : set16 v i x = v.set i x hi := by unfold set16; rw [dif_pos hi]
def setRow (m : Vector (Vector Int 16) 16) (i : Nat) (x : Vector Int 16) : Vector (Vector Int 16) 16 := if h : i < 16 then m.set i x h else m
def growS (v : Vector Int 16) (k n : Int) : Vector Int 16 × Int :=
  if 0 ≤ k ∧ k < 16 ∧ 0 ≤ n then (if (addS (at16 v k.toNat) n).2 = 0 then (set16 v k.toNat (addS (at16 v k.toNat) n).1, 0) else (default, (addS (at16 v k.toNat) n).2)) else (default, 1)
theorem vec_Grow_eq (v : Vector Int 16) (k n : Int) : vec_Grow v k n = some (growS v k n) := by
  unfold vec_Grow growS
  by_cases h : 0 ≤ k ∧ k < 16 ∧ 0 ≤ n
  · have hk : k.toNat < 16 := by omega
    rw [if_neg (by simp; omega), if_pos h, fix_int h.1 h.2.1]
    simp only [Option.bind, num_Add_eq, letM_eq, at16_of v hk, set16_of v hk]
    by_cases h2 : (addS (v.get ⟨k.toNat, hk⟩) n).2 = 0
    · rw [if_neg (by simp [h2]), if_pos h2]
    · rw [if_pos (by simp [h2]), if_neg h2]
  · rw [if_pos (by simp; omega), if_neg h]; rfl
def giveS (r : TRights) (k n : Int) : TRights × Int := if (growS r.Given k n).2 = 0 then ({ r with Given := (growS r.Given k n).1 }, 0) else (default, (growS r.Given k n).2)
theorem zeroR : (⟨(default : Vector Int 16), (default : Vector Int 16), (default : Vector (Vector Int 16) 16)⟩ : TRights) = default := rfl
theorem rights_Give_eq (r : TRights) (k n : Int) : rights_Give r k n = some (giveS r k n) := by
  unfold rights_Give giveS
  simp only [vec_Grow_eq, Option.bind, letM_eq, zeroR]
  by_cases h : (growS r.Given k n).2 = 0
  · rw [if_neg (by simp [h]), if_pos h]
  · rw [if_pos (by simp [h]), if_neg h]
def enoughS (r : TRights) (k n : Int) : Int := if n < 0 then 1 else if (freeS r k).2 = 0 then (if (freeS r k).1 < n then 8 else 0) else (freeS r k).2
theorem rights_enough_eq (r : TRights) (k n : Int) : rights_enough r k n = some (enoughS r k n) := by
  unfold rights_enough enoughS
  simp only [rights_Free_eq, Option.bind]
  by_cases h : n < 0
  · rw [if_pos (by simp [h]), if_pos h]
  · rw [if_neg (by simpa using h), if_neg h]
    by_cases h2 : (freeS r k).2 = 0
    · rw [if_neg (by simp [h2]), if_pos h2]
      by_cases h3 : (freeS r k).1 < n
      · rw [if_pos (by simp [h3]), if_pos h3]
      · rw [if_neg (by simpa using h3), if_neg h3]
    · rw [if_pos (by simp [h2]), if_neg h2]
def useS (r : TRights) (k n : Int) : TRights × Int :=
  if enoughS r k n = 0 then (if (growS r.Used k n).2 = 0 then ({ r with Used := (growS r.Used k n).1 }, 0) else (default, (growS r.Used k n).2)) else (default, enoughS r k n)
theorem rights_Use_eq (r : TRights) (k n : Int) : rights_Use r k n = some (useS r k n) := by
  unfold rights_Use useS
  simp only [rights_enough_eq, vec_Grow_eq, Option.bind, letM_eq, zeroR]
  by_cases h : enoughS r k n = 0
  · rw [if_pos (by simp [h]), if_pos h]
    by_cases h2 : (growS r.Used k n).2 = 0
    · rw [if_neg (by simp [h2]), if_pos h2]
    · rw [if_pos (by simp [h2]), if_neg h2]
  · rw [if_neg (by simp [h]), if_neg h, if_pos (by simp [h])]
def decS (c : TCounter) (k n : Int) : TCounter × Int :=
  if (useS c.Down k n).2 = 0 then (if (giveS c.Up k n).2 = 0 then ({ c with Down := (useS c.Down k n).1, Up := (giveS c.Up k n).1 }, 0) else (default, (giveS c.Up k n).2)) else (default, (useS c.Down k n).2)
def incS (c : TCounter) (k n : Int) : TCounter × Int :=
  if (useS c.Up k n).2 = 0 then (if (giveS c.Down k n).2 = 0 then ({ c with Down := (giveS c.Down k n).1, Up := (useS c.Up k n).1 }, 0) else (default, (giveS c.Down k n).2)) else (default, (useS c.Up k n).2)
theorem counter_done_eq (c : TCounter) (e : Int) : counter_done c e = some (if e = 0 then (c, 0) else (default, e)) := by
  unfold counter_done
  by_cases h : e = 0
  · rw [if_neg (by simp [h]), if_pos h]
  · rw [if_pos (by simp [h]), if_neg h]; rfl
theorem counter_Dec_eq (c : TCounter) (k n : Int) : counter_Dec c k n = some (decS c k n) := by
  unfold counter_Dec counter_both_Dec_1_Dec_2_Dec_3 counter_Dec_1 counter_Dec_2 counter_Dec_3 decS
  simp only [rights_Use_eq, rights_Give_eq, counter_done_eq, Option.bind, letM_eq]
  by_cases h : (useS c.Down k n).2 = 0
  · rw [if_neg (by simp [h]), if_pos h]
    by_cases h2 : (giveS c.Up k n).2 = 0
    · rw [if_pos (by simp [h2]), if_pos h2]; simp [h2]
    · rw [if_neg (by simp [h2]), if_neg h2]; simp [h2]
  · rw [if_pos (by simp [h]), if_neg h]; simp [h]
theorem counter_Inc_eq (c : TCounter) (k n : Int) : counter_Inc c k n = some (incS c k n) := by
  unfold counter_Inc counter_both_Inc_1_Inc_2_Inc_3 counter_Inc_1 counter_Inc_2 counter_Inc_3 incS
  simp only [rights_Use_eq, rights_Give_eq, counter_done_eq, Option.bind, letM_eq]
  by_cases h : (useS c.Up k n).2 = 0
  · rw [if_neg (by simp [h]), if_pos h]
    by_cases h2 : (giveS c.Down k n).2 = 0
    · rw [if_pos (by simp [h2]), if_pos h2]; simp [h2]
    · rw [if_neg (by simp [h2]), if_neg h2]; simp [h2]
  · rw [if_pos (by simp [h]), if_neg h]; simp [h]
end Go.Av
namespace Go.Av
set_option linter.unusedSectionVars false
set_option linter.unusedVariables false
set_option linter.unusedSimpArgs false

def looseS (f : TField) (k : Int) : Int × Int := if f.Kind = 1 then (wr .i64 ((freeS f.Counter.Down k).1 - SumS f.Holds k), (freeS f.Counter.Up k).1) else (0, 0)
theorem field_Loose_eq (f : TField) (k : Int) (hh : f.Holds.length ≤ 1000000000000) : field_Loose f k = some (looseS f k) := by
  unfold field_Loose looseS counter_Room
  simp only [rights_Free_eq, hold_Sum_eq _ _ hh, Option.bind]
  by_cases h : f.Kind = 1
  · rw [if_neg (by simp [h]), if_pos h]
  · rw [if_pos (by simp [h]), if_neg h]
theorem Few7_eq (ls : List TField) (hl : ls.length ≤ 1000000000000000) : usufructlaw07_Few ls = some (decide (∀ f ∈ ls, f.Name.size ≤ 100 ∧ f.Holds.length ≤ 40)) := by
  unfold usufructlaw07_Few
  rw [loop_all ls.length hl (fun i => (ls.getD i default).Name.size ≤ 100 ∧ (ls.getD i default).Holds.length ≤ 40) false () (fun i hi => ?_) (by simp [-List.getD_eq_getElem?_getD, usufructlaw07_Few_L1])]
  · by_cases h : ∀ f ∈ ls, f.Name.size ≤ 100 ∧ f.Holds.length ≤ 40
    · rw [if_pos (fun i hi => h _ (by simp [List.getD, hi]))]
      rw [decide_eq_true h]; rfl
    · rw [if_neg (fun h2 => h fun f hx => by obtain ⟨i, hi, rfl⟩ := List.getElem_of_mem hx; simpa [List.getD, hi] using h2 i hi)]
      rw [decide_eq_false h]; rfl
  · simp only [usufructlaw07_Few_L1, six_of hi, letM_eq, Option.bind]
    rw [if_pos (by simp; omega)]
    simp only [wr_succ (show i < 1000000000000000 by omega)]
    by_cases h : (ls.getD i default).Name.size ≤ 100 ∧ (ls.getD i default).Holds.length ≤ 40
    · rw [if_neg (by simp only [Bool.or_eq_true, decide_eq_true_eq]; omega), if_pos h]
    · rw [if_pos (by simp only [Bool.or_eq_true, decide_eq_true_eq]; omega), if_neg h]
theorem Few71 (f : TField) : usufructlaw07_Few [f] = some (decide (f.Name.size ≤ 100 ∧ f.Holds.length ≤ 40)) := by rw [Few7_eq _ (by simp)]; simp
end Go.Av
namespace Go.Av
set_option linter.unusedSectionVars false
set_option linter.unusedVariables false
set_option linter.unusedSimpArgs false

theorem zeroF : (⟨(default : ByteArray), 0, 0, (default : TCounter), (default : TLock), ([] : List THold)⟩ : TField) = default := rfl
theorem zeroLk : (⟨0, 0, 0, 0⟩ : TLock) = default := rfl
def withS (f : TField) (c : TCounter × Int) : TField × Int := if c.2 = 0 then ({ f with Counter := c.1 }, 0) else (default, c.2)
theorem field_done_eq' (f : TField) (e : Int) (hh : f.Holds.length ≤ 1000000000000) : field_done f e = some (if e = 0 then (f, 0) else (default, e)) := by
  unfold field_done
  by_cases h : e = 0
  · rw [if_neg (by simp [h]), if_pos h, app_of (by simp; omega)]; rfl
  · rw [if_pos (by simp [h]), if_neg h]; rfl
theorem field_changed_eq (f : TField) (c : TCounter) (e : Int) (hh : f.Holds.length ≤ 1000000000000) : field_changed f c e = some (withS f (c, e)) := by
  unfold field_changed withS
  simp only [letM_eq]
  rw [field_done_eq' _ _ (by exact hh)]
  by_cases h : e = 0
  · simp [h]
  · simp [h]
def lacksS (f : TField) (k n : Int) : Int := if f.Kind = 1 then (if (looseS f k).1 < n then 8 else 0) else 17
theorem field_lacks_eq (f : TField) (k n : Int) (hh : f.Holds.length ≤ 1000000000000) : field_lacks f k n = some (lacksS f k n) := by
  unfold field_lacks lacksS
  simp only [field_Loose_eq _ _ hh, Option.bind]
  by_cases h : f.Kind = 1
  · rw [if_neg (by simp [h]), if_pos h]
    by_cases h2 : (looseS f k).1 < n
    · rw [if_pos (by simp [h2]), if_pos h2]
    · rw [if_neg (by simpa using h2), if_neg h2]
  · rw [if_pos (by simp [h]), if_neg h]

def reserveF (f : TField) (k a d : Int) : TField × Int × Int :=
  if f.Kind = 1 then (if (looseS f k).1 < a then (default, 0, 8) else if (ResS f.Holds k a d).2.2 = 0 then ({ f with Holds := (ResS f.Holds k a d).1 }, (ResS f.Holds k a d).2.1, 0) else (default, 0, (ResS f.Holds k a d).2.2)) else (default, 0, 17)
theorem field_Reserve_eq (f : TField) (k a d : Int) (hh : f.Holds.length ≤ 1000000000) : field_Reserve f k a d = some (reserveF f k a d) := by
  unfold field_Reserve reserveF
  simp only [field_lacks_eq _ _ _ (show f.Holds.length ≤ 1000000000000 by omega), hold_Reserve_eq _ _ _ _ (show f.Holds.length ≤ 1000000000000 by omega), Option.bind, letM_eq, zeroF, lacksS]
  by_cases h : f.Kind = 1
  · simp only [if_pos h]
    by_cases h2 : (looseS f k).1 < a
    · simp [h2]
    · simp only [if_neg h2]
      by_cases h3 : (ResS f.Holds k a d).2.2 = 0
      · simp [h3]
      · simp [h3]
  · simp [h]
theorem ResS_len (l : List THold) (k a d : Int) : (ResS l k a d).1.length ≤ l.length + 1 := by
  unfold ResS
  split
  · split
    · simp
    · simp only [putS_length]; omega
  · simp
theorem reserveF_len (f : TField) (k a d : Int) : (reserveF f k a d).1.Holds.length ≤ f.Holds.length + 1 := by
  have hl := ResS_len f.Holds k a d
  unfold reserveF
  split
  · split
    · simp only [show (default : TField).Holds = [] from rfl]; simp
    · split
      · exact hl
      · simp only [show (default : TField).Holds = [] from rfl]; simp
  · simp only [show (default : TField).Holds = [] from rfl]; simp

end Go.Av
namespace Go.Av
set_option linter.unusedSectionVars false
set_option linter.unusedVariables false
set_option linter.unusedSimpArgs false

theorem neg_wr {n : Int} (h : -1099511627776 ≤ n) (h2 : n < 0) : wr .i64 (0 - n) = -n := by rw [wr_id (by omega)]; omega
def addF (f : TField) (k n : Int) : TField × Int :=
  if f.Kind = 1 then (if 0 ≤ n then withS f (incS f.Counter k n) else if n < -1099511627776 then (default, 8) else if (looseS f k).1 < -n then (default, 8) else withS f (decS f.Counter k (-n))) else (default, 17)
theorem withS_eta (f : TField) (c : TCounter × Int) : withS f (c.1, c.2) = withS f c := rfl
theorem field_Add_eq (f : TField) (k n : Int) (hh : f.Holds.length ≤ 1000000000) : field_Add f k n = some (addF f k n) := by
  unfold field_Add addF
  have h0 : f.Holds.length ≤ 1000000000000 := by omega
  simp only [counter_Inc_eq, counter_Dec_eq, field_changed_eq _ _ _ h0, field_lacks_eq _ _ _ h0, num_Is_eq, gd_nb, Option.bind, letM_eq, zeroF, withS_eta, lacksS]
  by_cases hk : f.Kind = 1
  · simp only [hk, decide_true, if_true, Bool.not_true, Bool.false_eq_true, if_false]
    by_cases h1 : 0 ≤ n
    · rw [if_pos (by simp [h1]), if_pos h1]
    · rw [if_neg (by simpa using h1), if_neg h1]
      by_cases h2 : n < -1099511627776
      · have hN : ¬ IsN n := by unfold IsN; omega
        rw [if_pos (by simp [hN]), if_pos h2]
      · have hN : IsN n := by unfold IsN; omega
        rw [if_neg (by simp [hN]), if_neg h2, neg_wr (by omega) (by omega)]
        by_cases h3 : (looseS f k).1 < -n
        · simp [h3]
        · simp [h3]
  · simp only [hk, decide_false, if_false, Bool.not_false, if_true, Bool.false_and, Bool.false_eq_true]
    by_cases h1 : 0 ≤ n
    · rw [if_pos (by simp [h1])]
    · rw [if_neg (by simpa using h1)]; rfl
def writeL (l : TLock) (k v : Int) : TLock × Int := if k = l.Holder then (if (addS l.Ver 1).2 = 0 ∧ IsN v then ({ l with Ver := (addS l.Ver 1).1, Value := v }, 0) else (default, 2)) else (default, 9)
theorem lock_Write_eq (l : TLock) (k v : Int) : lock_Write l k v = some (writeL l k v) := by
  unfold lock_Write writeL
  simp only [num_Add_eq, num_Is_eq, gd_nb, Option.bind, letM_eq, zeroLk]
  by_cases h : k = l.Holder
  · by_cases h2 : (addS l.Ver 1).2 = 0 <;> by_cases h3 : IsN v <;> simp [h, h2, h3]
  · simp [h]
def lockF (f : TField) (l : TLock × Int) : TField × Int := if f.Kind = 2 then (if l.2 = 0 then ({ f with Lock := l.1 }, 0) else (default, l.2)) else (default, 17)
theorem field_Write_eq (f : TField) (k v : Int) (hh : f.Holds.length ≤ 1000000000) : field_Write f k v = some (lockF f (writeL f.Lock k v)) := by
  unfold field_Write field_locked_Write_1 field_Write_1 lockF
  simp only [lock_Write_eq, Option.bind, letM_eq, zeroF]
  rw [field_done_eq' _ _ (by simp only; omega)]
  by_cases h : f.Kind = 2
  · by_cases h2 : (writeL f.Lock k v).2 = 0 <;> simp [h, h2]
  · simp [h]
theorem lockF_len (f : TField) (l : TLock × Int) : (lockF f l).1.Holds.length ≤ f.Holds.length := by
  have z : (default : TField).Holds.length ≤ f.Holds.length := by simp only [show (default : TField).Holds = [] from rfl]; simp
  unfold lockF
  repeat' split
  all_goals first | exact Nat.le_refl _ | exact z
end Go.Av
namespace Go.Av
set_option linter.unusedSectionVars false
set_option linter.unusedVariables false
set_option linter.unusedSimpArgs false

theorem incS_keep {c : TCounter} {k n : Int} (h : (incS c k n).2 = 0) : (incS c k n).1.Init = c.Init ∧ (incS c k n).1.Low = c.Low ∧ (incS c k n).1.High = c.High := by
  unfold incS at h ⊢
  split
  · rename_i h1
    rw [if_pos h1] at h
    split
    · exact ⟨rfl, rfl, rfl⟩
    · rename_i h2; rw [if_neg h2] at h; exact (h2 h).elim
  · rename_i h1; rw [if_neg h1] at h; exact (h1 h).elim
theorem decS_keep {c : TCounter} {k n : Int} (h : (decS c k n).2 = 0) : (decS c k n).1.Init = c.Init ∧ (decS c k n).1.Low = c.Low ∧ (decS c k n).1.High = c.High := by
  unfold decS at h ⊢
  split
  · rename_i h1
    rw [if_pos h1] at h
    split
    · exact ⟨rfl, rfl, rfl⟩
    · rename_i h2; rw [if_neg h2] at h; exact (h2 h).elim
  · rename_i h1; rw [if_neg h1] at h; exact (h1 h).elim
def keeps (g f : TField) : Prop := g.Name = f.Name ∧ g.Kind = f.Kind ∧ g.Epoch = f.Epoch ∧ g.Counter.Low = f.Counter.Low ∧ g.Counter.High = f.Counter.High
theorem withS_keep {f : TField} {c : TCounter × Int} (h : (withS f c).2 = 0) (hl : c.2 = 0 → c.1.Low = f.Counter.Low ∧ c.1.High = f.Counter.High) : keeps (withS f c).1 f := by
  unfold withS at h ⊢
  split
  · rename_i h1; exact ⟨rfl, rfl, rfl, (hl h1).1, (hl h1).2⟩
  · rename_i h1; rw [if_neg h1] at h; exact (h1 h).elim
theorem addF_keep {f : TField} {k n : Int} (h : (addF f k n).2 = 0) : keeps (addF f k n).1 f := by
  unfold addF at h ⊢
  split
  · rename_i h1
    rw [if_pos h1] at h
    split
    · rename_i h2
      rw [if_pos h2] at h
      exact withS_keep h fun h3 => (incS_keep h3).2
    · rename_i h2
      rw [if_neg h2] at h
      split
      · rename_i h3; rw [if_pos h3] at h; cases h
      · rename_i h3
        rw [if_neg h3] at h
        split
        · rename_i h4; rw [if_pos h4] at h; cases h
        · rename_i h4
          rw [if_neg h4] at h
          exact withS_keep h fun h5 => (decS_keep h5).2
  · rename_i h1; rw [if_neg h1] at h; cases h
theorem ResS_Rts {l : List THold} {k a d : Int} (h : (ResS l k a d).2.2 = 0) : Rts (ResS l k a d).1 := by
  unfold ResS at h ⊢
  split
  · rename_i h1
    rw [if_pos h1] at h
    split
    · rename_i h2; rw [if_pos h2] at h; cases h
    · rename_i h2; exact Rts_put h1.1 h1.2 (newH_off h1.1.1) h2
  · rename_i h1; rw [if_neg h1] at h; cases h
theorem reserveF_keep {f : TField} {k a d : Int} (h : (reserveF f k a d).2.2 = 0) : keeps (reserveF f k a d).1 f ∧ f.Kind = 1 ∧ (reserveF f k a d).1.Counter = f.Counter ∧ (reserveF f k a d).1.Lock = f.Lock ∧ Rts (reserveF f k a d).1.Holds := by
  unfold reserveF at h ⊢
  split
  · rename_i h1
    rw [if_pos h1] at h
    split
    · rename_i h2; rw [if_pos h2] at h; cases h
    · rename_i h2
      rw [if_neg h2] at h
      split
      · rename_i h3; exact ⟨⟨rfl, rfl, rfl, rfl, rfl⟩, h1, rfl, rfl, ResS_Rts h3⟩
      · rename_i h3; rw [if_neg h3] at h; exact (h3 h).elim
  · rename_i h1; rw [if_neg h1] at h; cases h
theorem reserveF_ok {f : TField} {k a d : Int} (hf : FOk f) (h : (reserveF f k a d).2.2 = 0) : FOk (reserveF f k a d).1 := by
  obtain ⟨⟨h1, h2, h3, h4, h5⟩, h6, h7, h8, h9⟩ := reserveF_keep h
  unfold FOk at hf ⊢
  rw [h1, h2, h3, h7, h8]
  refine ⟨hf.1, hf.2.1, .inl ⟨h6, ?_, h9, ?_⟩⟩
  · rcases hf.2.2 with g | g
    · exact g.2.1
    · omega
  · rcases hf.2.2 with g | g
    · exact g.2.2.2
    · omega
theorem addS_zero {a b : Int} (h : (addS a b).2 = 0) : IsN a ∧ IsN b ∧ IsN (a + b) ∧ addS a b = (a + b, 0) := by
  unfold addS at h ⊢
  by_cases hc : IsN a ∧ IsN b ∧ IsN (a + b)
  · rw [if_pos hc]; exact ⟨hc.1, hc.2.1, hc.2.2, rfl⟩
  · rw [if_neg hc] at h; cases h
theorem writeL_ok {l : TLock} {k v : Int} (hl : LOk l) (h : (writeL l k v).2 = 0) : LOk (writeL l k v).1 := by
  unfold writeL at h ⊢
  split
  · rename_i h1
    rw [if_pos h1] at h
    split
    · rename_i h2
      obtain ⟨a, b, c, d⟩ := addS_zero h2.1
      rw [d]
      unfold LOk cnt at hl ⊢
      exact ⟨hl.1, ⟨by simp only; omega, c⟩, hl.2.2.1, hl.2.2.2.1, h2.2⟩
    · rename_i h2; rw [if_neg h2] at h; cases h
  · rename_i h1; rw [if_neg h1] at h; cases h
theorem writeL_err (l : TLock) (k v : Int) : (writeL l k v).2 = 0 ∨ (writeL l k v).2 = 2 ∨ (writeL l k v).2 = 9 := by
  unfold writeL
  repeat' split
  all_goals simp
theorem FieldKinds_1_eq (a : TField) (e : Int) (f : TField) (h : e = 0 → keeps a f) : usufructlaw07_FieldKinds_1 a e f = some true := by
  unfold usufructlaw07_FieldKinds_1
  by_cases h1 : e = 0
  · obtain ⟨h2, h3, h4, h5, h6⟩ := h h1
    simp [h2, h3, h4, h5, h6]
  · simp [h1]
theorem FieldKinds_true (a1 : TField) (a2 a3 a4 : Int) : usufructlaw07_FieldKinds a1 a2 a3 a4 = some true := by
  unfold usufructlaw07_FieldKinds
  simp only [Few71, awake7_eq, Option.bind, letM_eq]
  by_cases hf : a1.Name.size ≤ 100 ∧ a1.Holds.length ≤ 40
  · have h1 : a1.Name.size ≤ 1000000000000000 := by omega
    have h2 : a1.Holds.length ≤ 1000000000000 := by omega
    have h3 : a1.Holds.length ≤ 1000000000 := by omega
    have l1 := reserveF_len a1 a2 a3 a4
    simp only [decide_eq_true hf, ref07_Right_eq _ h1 h2, gd_nb, Bool.not_true, if_true, Bool.false_or]
    by_cases hr : FOk a1
    · simp only [decide_eq_true hr, Bool.not_true, Bool.false_or, field_Add_eq _ _ _ h3, field_Write_eq _ _ _ h3, field_Reserve_eq _ _ _ _ h3]
      split
      · rfl
      · rcases hr.2.2 with ⟨hk, g2, g3, g4⟩ | ⟨hk, g2, g3, g4⟩
        · have e1 : lockF a1 (writeL a1.Lock a2 a3) = (default, 17) := by unfold lockF; rw [if_neg (by omega)]
          rw [if_neg (by simp [hk]), e1, FieldKinds_1_eq _ _ _ (fun h => addF_keep h), FieldKinds_1_eq _ _ _ (fun h => (reserveF_keep h).1)]
          simp only [decide_true, gd_t, Bool.and_self, Bool.true_and]
          by_cases h4 : (reserveF a1 a2 a3 a4).2.2 = 0
          · obtain ⟨⟨q1, _⟩, _⟩ := reserveF_keep h4
            rw [ref07_Right_eq _ (by rw [q1]; exact h1) (by omega)]
            simp [reserveF_ok hr h4, gd_nb, h4]
          · simp [h4, gd]
        · have e1 : addF a1 a2 a3 = (default, 17) := by unfold addF; rw [if_neg (by omega)]
          have e2 : reserveF a1 a2 a3 a4 = (default, 0, 17) := by unfold reserveF; rw [if_neg (by omega)]
          rw [if_pos (by simp [hk]), e1, e2]
          have l3 := lockF_len a1 (writeL a1.Lock a2 a3)
          by_cases h4 : (writeL a1.Lock a2 a3).2 = 0
          · have e3 : lockF a1 (writeL a1.Lock a2 a3) = ({ a1 with Lock := (writeL a1.Lock a2 a3).1 }, 0) := by unfold lockF; rw [if_pos hk, if_pos h4]
            rw [e3, ref07_Right_eq _ (by exact h1) (by exact h2)]
            have hok : FOk { a1 with Lock := (writeL a1.Lock a2 a3).1 } := ⟨hr.1, hr.2.1, .inr ⟨hk, writeL_ok g2 h4, g3, g4⟩⟩
            simp [hok, gd_nb]
          · have e3 : lockF a1 (writeL a1.Lock a2 a3) = (default, (writeL a1.Lock a2 a3).2) := by unfold lockF; rw [if_pos hk, if_neg h4]
            rw [e3]
            have := writeL_err a1.Lock a2 a3
            have h17 : ¬ (writeL a1.Lock a2 a3).2 = 17 := by omega
            simp [h4, h17, gd]
    · simp [hr]
  · simp [hf, gd]
end Go.Av
