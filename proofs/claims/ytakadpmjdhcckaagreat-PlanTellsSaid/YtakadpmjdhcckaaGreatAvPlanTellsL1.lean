/- The plain law: what the mirrors answer. -/
import Derived.Test.YtakadpmjdhcckaaGreatAvPlanTellsM1
namespace Go.Av
set_option linter.unusedSectionVars false
set_option linter.unusedVariables false
set_option linter.unusedSimpArgs false

theorem fuel_big : 1000000000000000 < fuel := by decide
theorem wr_id {n : Int} (h : -9223372036854775808 ≤ n ∧ n ≤ 9223372036854775807) : wr .i64 n = n := wrap_id h.1 h.2
theorem wr_succ {i : Nat} (h : i < 1000000000000000) : wr .i64 ((i : Int) + 1) = ((i + 1 : Nat) : Int) := by rw [wr_id (by omega)]; omega
theorem six_of {α : Type} {xs : List α} {i : Nat} (h : i < xs.length) : six xs (i : Int) = some i := by simp [six]; omega
theorem app_of {α : Type} {b : Nat} {xs ys : List α} (h : (xs.length + ys.length) * b ≤ 140737488355328) : app b xs ys = some (xs ++ ys) := by simp [app, h]
@[simp] theorem gd_t {α : Type} [Inhabited α] {p : Prop} [Decidable p] {m : Option α} (h : p) : gd p m = m := by simp [gd, h]
@[simp] theorem gd_f {α : Type} [Inhabited α] {p : Prop} [Decidable p] {m : Option α} (h : ¬ p) : gd p m = some default := by simp [gd, h]
@[simp] theorem letM_eq {α β : Type} (e : α) (k : α → Option β) : letM e k = k e := rfl
@[simp] theorem onS_l {α β γ : Type} (f : α → Option γ) (g : β → Option γ) (a : α) : onS f g (.inl a) = f a := rfl
@[simp] theorem onS_r {α β γ : Type} (f : α → Option γ) (g : β → Option γ) (b : β) : onS f g (.inr b) = g b := rfl
theorem fix_of {k i : Nat} (h : i < k) : fix_ k (i : Int) = some ⟨i, h⟩ := by simp [fix_]; omega

section
variable {σ ρ : Type} {body : σ → Option (σ ⊕ ρ)}
theorem loopM_ind' (I : Nat → σ → Prop) (N : Nat) (Q : ρ → Prop) (step : ∀ i s, i < N → I i s → (∃ t, body s = some (.inl t) ∧ I (i + 1) t) ∨ (∃ r, body s = some (.inr r) ∧ Q r)) (fin : ∀ s, I N s → ∃ r, body s = some (.inr r) ∧ Q r) :
    ∀ (k i : Nat) (s : σ), i + k = N → I i s → ∀ n, k < n → ∃ r, loopM body n s = some r ∧ Q r
  | k, i, s, hk, hI, 0, hn => by omega
  | 0, i, s, hk, hI, n + 1, hn => by
    obtain rfl : i = N := by omega
    obtain ⟨r, h1, h2⟩ := fin s hI
    exact ⟨r, by simp [loopM, h1], h2⟩
  | k + 1, i, s, hk, hI, n + 1, hn => by
    rcases step i s (by omega) hI with ⟨t, h1, h2⟩ | ⟨r, h1, h2⟩
    · obtain ⟨r, h3, h4⟩ := loopM_ind' I N Q step fin k (i + 1) t (by omega) h2 n (by omega)
      exact ⟨r, by simp [loopM, h1, h3], h4⟩
    · exact ⟨r, by simp [loopM, h1], h2⟩
theorem loopM_ind (I : Nat → σ → Prop) (N : Nat) (hN : N ≤ 1000000000000000) (Q : ρ → Prop) (step : ∀ i s, i < N → I i s → (∃ t, body s = some (.inl t) ∧ I (i + 1) t) ∨ (∃ r, body s = some (.inr r) ∧ Q r))
    (fin : ∀ s, I N s → ∃ r, body s = some (.inr r) ∧ Q r) {s0 : σ} (h0 : I 0 s0) : ∃ r, loopM body fuel s0 = some r ∧ Q r :=
  loopM_ind' I N Q step fin N 0 s0 (by omega) h0 fuel (by have := fuel_big; omega)
theorem loopM_eq (I : Nat → σ → Prop) (N : Nat) (hN : N ≤ 1000000000000000) (q : ρ) (step : ∀ i s, i < N → I i s → (∃ t, body s = some (.inl t) ∧ I (i + 1) t) ∨ (body s = some (.inr q)))
    (fin : ∀ s, I N s → body s = some (.inr q)) {s0 : σ} (h0 : I 0 s0) : loopM body fuel s0 = some q := by
  obtain ⟨r, h1, rfl⟩ := loopM_ind I N hN (fun r => r = q) (fun i s hi hI => (step i s hi hI).imp id fun h => ⟨q, h, rfl⟩) (fun s hI => ⟨q, fin s hI, rfl⟩) h0
  exact h1
end

/-- A loop over numbers that stops at the first one that is told to. -/
theorem loop_find {ρ : Type} {body : Int → Option (Int ⊕ ρ)} (N : Nat) (hN : N ≤ 1000000000000000) (bad : Nat → Option ρ) (fin : ρ) (hb : ∀ i, i < N → body (i : Int) = some (match bad i with | some r => .inr r | none => .inl (((i + 1 : Nat)) : Int)))
    (hf : body (N : Int) = some (.inr fin)) : loopM body fuel 0 = some (((List.range N).findSome? bad).getD fin) := by
  refine loopM_eq (fun i s => s = (i : Int) ∧ ∀ j, j < i → bad j = none) N hN _ ?_ ?_ ⟨rfl, fun j h => by omega⟩
  · rintro i s hi ⟨rfl, hI⟩
    cases hbi : bad i with
    | none =>
      refine .inl ⟨_, by rw [hb i hi, hbi], rfl, fun j hj => ?_⟩
      rcases Nat.lt_succ_iff_lt_or_eq.1 hj with h | rfl
      · exact hI j h
      · exact hbi
    | some r =>
      refine .inr ?_
      rw [hb i hi, hbi]
      have : (List.range N).findSome? bad = some r := by
        rw [show N = i + (N - i) from by omega, List.range_add, List.findSome?_append]
        have h1 : (List.range i).findSome? bad = none := by
          rw [List.findSome?_eq_none_iff]; intro x hx; exact hI x (by simpa using hx)
        rw [h1]
        obtain ⟨m, hm⟩ : ∃ m, N - i = m + 1 := ⟨N - i - 1, by omega⟩
        rw [hm, List.range_succ_eq_map]
        simp [hbi]
      simp [this]
  · rintro s ⟨rfl, hI⟩
    rw [hf]
    have : (List.range N).findSome? bad = none := by rw [List.findSome?_eq_none_iff]; intro x hx; exact hI x (by simpa using hx)
    simp [this]

/-- A loop over numbers that carries something along. -/
theorem loop_fold {σ ρ : Type} {body : Int × σ → Option ((Int × σ) ⊕ ρ)} (N : Nat) (hN : N ≤ 1000000000000000) (f : σ → Nat → σ) (out : σ → ρ) (J : Nat → σ → Prop) {s0 : σ} (h0 : J 0 s0)
    (hb : ∀ i s, i < N → J i s → body ((i : Int), s) = some (.inl ((((i + 1 : Nat)) : Int), f s i)) ∧ J (i + 1) (f s i)) (hf : ∀ s, J N s → body ((N : Int), s) = some (.inr (out s))) : loopM body fuel (0, s0) = some (out ((List.range N).foldl f s0)) ∧ J N ((List.range N).foldl f s0) := by
  have key : ∀ k, k ≤ N → J k ((List.range k).foldl f s0) := by
    intro k
    induction k with
    | zero => intro _; exact h0
    | succ k ih =>
      intro hk
      rw [List.range_succ, List.foldl_append]
      exact (hb k _ (by omega) (ih (by omega))).2
  refine ⟨?_, key N (Nat.le_refl _)⟩
  refine loopM_eq (fun i s => s = ((i : Int), (List.range i).foldl f s0)) N hN _ ?_ ?_ rfl
  · rintro i s hi rfl
    refine .inl ⟨_, (hb i _ hi (key i (by omega))).1, ?_⟩
    rw [List.range_succ, List.foldl_append]; rfl
  · rintro s rfl
    exact hf _ (key N (Nat.le_refl _))
end Go.Av
namespace Go.Av
set_option linter.unusedSectionVars false
set_option linter.unusedVariables false
set_option linter.unusedSimpArgs false

/-- A loop over numbers that stops at the first one that is not good. -/
theorem loop_all {ρ ξ : Type} {body : Int → Option (Int ⊕ (ξ ⊕ ρ))} (N : Nat) (hN : N ≤ 1000000000000000) (good : Nat → Prop) [DecidablePred good] (r : ρ) (x : ξ)
    (hb : ∀ i, i < N → body (i : Int) = some (if good i then .inl (((i + 1 : Nat)) : Int) else .inr (.inr r))) (hf : body (N : Int) = some (.inr (.inl x))) :
    loopM body fuel 0 = some (if ∀ i, i < N → good i then .inl x else .inr r) := by
  have h := loop_find (body := body) N hN (fun i => if good i then none else some (.inr r)) (.inl x) (fun i hi => by rw [hb i hi]; by_cases h : good i <;> simp [-List.getD_eq_getElem?_getD, h]) hf
  rw [h]
  by_cases hg : ∀ i, i < N → good i
  · have : (List.range N).findSome? (fun i => if good i then none else some (.inr r : ξ ⊕ ρ)) = none := by
      rw [List.findSome?_eq_none_iff]; intro i hi; simp [-List.getD_eq_getElem?_getD, hg i (by simpa using hi)]
    rw [this]; simp [-List.getD_eq_getElem?_getD, if_pos hg]
  · obtain ⟨v, hv⟩ : ∃ v, (List.range N).findSome? (fun i => if good i then none else some (.inr r : ξ ⊕ ρ)) = some v := by
      cases hc : (List.range N).findSome? (fun i => if good i then none else some (.inr r : ξ ⊕ ρ)) with
      | some v => exact ⟨v, rfl⟩
      | none =>
        rw [List.findSome?_eq_none_iff] at hc
        exact (hg fun i hi => by have := hc i (by simpa using hi); by_cases h : good i; exact h; simp [-List.getD_eq_getElem?_getD, h] at this).elim
    obtain ⟨i, hi, hv2⟩ := List.exists_of_findSome?_eq_some hv
    rw [hv, if_neg hg]
    by_cases h : good i <;> simp [-List.getD_eq_getElem?_getD, h] at hv2
    simp [-List.getD_eq_getElem?_getD, hv2]

def IsN (n : Int) : Prop := -1099511627776 ≤ n ∧ n ≤ 1099511627776
instance (n : Int) : Decidable (IsN n) := by unfold IsN; infer_instance
theorem sd {b : Bool} {P : Prop} [Decidable P] (h : b = true ↔ P) : some b = some (decide P) := by rw [show b = decide P from Bool.eq_iff_iff.2 (by simpa using h)]
theorem num_Is_eq (n : Int) : num_Is n = some (decide (IsN n)) := sd (by simp [-List.getD_eq_getElem?_getD, IsN])
theorem ref_Is_eq (n : Int) : usufructref01_Is n = some (decide (IsN n)) := sd (by simp [-List.getD_eq_getElem?_getD, IsN, and_comm])

theorem gd_and {p b : Bool} : gd (p = true) (some b) = some (if p = true then b else false) := by cases p <;> rfl
theorem wr_pred {i : Nat} (h0 : 0 < i) (h : i < 1000000000000000) : wr .i64 ((i : Int) - 1) = ((i - 1 : Nat) : Int) := by rw [wr_id (by omega)]; omega
end Go.Av
namespace Go.Av
set_option linter.unusedSectionVars false
set_option linter.unusedVariables false
set_option linter.unusedSimpArgs false

def Cnt (n : Int) : Prop := 0 ≤ n ∧ n ≤ 1099511627776
instance (n : Int) : Decidable (Cnt n) := by unfold Cnt; infer_instance
def HOk (h : THold) : Prop := 0 ≤ h.Replica ∧ h.Replica < 16 ∧ 1 ≤ h.Number ∧ h.Number ≤ 1099511627776 ∧ Cnt h.Amount ∧ Cnt h.Due ∧ 1 ≤ h.State ∧ h.State ≤ 3
instance (h : THold) : Decidable (HOk h) := by unfold HOk; infer_instance
theorem hold_count_eq (n : Int) : hold_count n = some (decide (Cnt n)) := by
  unfold hold_count
  rw [num_Is_eq]
  by_cases h : 0 ≤ n
  · rw [gd_t (by simp [h])]; refine sd ?_; simp only [Bool.and_eq_true, decide_eq_true_eq]; unfold IsN Cnt; omega
  · rw [gd_f (by simp [-List.getD_eq_getElem?_getD, h])]; refine sd ?_; simp [-List.getD_eq_getElem?_getD, h, Cnt]
theorem ref_counts_eq (n : Int) : usufructref06_counts n = some (decide (Cnt n)) := by
  unfold usufructref06_counts
  rw [ref_Is_eq]
  by_cases h : 0 ≤ n
  · rw [gd_t (by simp [h])]; refine sd ?_; simp only [Bool.and_eq_true, decide_eq_true_eq]; unfold IsN Cnt; omega
  · rw [gd_f (by simp [-List.getD_eq_getElem?_getD, h])]; refine sd ?_; simp [-List.getD_eq_getElem?_getD, h, Cnt]
theorem hold_Right_eq (h : THold) : hold_Right h = some (decide (HOk h)) := by
  unfold hold_Right
  simp only [num_Is_eq, hold_count_eq, letM_eq, gd_and, Option.bind]
  refine sd ?_
  simp only [Bool.and_eq_true, Bool.if_false_right, decide_eq_true_eq]
  first | unfold HOk IsN Cnt | unfold HOk Cnt
  omega
theorem ref_Right_eq (h : THold) : usufructref06_Right h = some (decide (HOk h)) := by
  unfold usufructref06_Right
  simp only [ref_counts_eq, letM_eq, gd_and, Option.bind]
  refine sd ?_
  simp only [Bool.and_eq_true, Bool.if_false_right, decide_eq_true_eq]
  first | unfold HOk IsN Cnt | unfold HOk Cnt
  omega

def HLt (a b : THold) : Prop := a.Replica < b.Replica ∨ (a.Replica = b.Replica ∧ a.Number < b.Number)
instance (a b : THold) : Decidable (HLt a b) := by unfold HLt; infer_instance
theorem HLt.trans {a b c : THold} (h : HLt a b) (k : HLt b c) : HLt a c := by unfold HLt at *; omega
theorem cmp_ge (a b : THold) : 0 ≤ holdCmp a b ↔ ¬ HLt a b := by
  unfold holdCmp HLt
  by_cases h : a.Replica = b.Replica
  · by_cases h1 : a.Number = b.Number
    · simp [-List.getD_eq_getElem?_getD, h, h1]
    · by_cases h2 : a.Number < b.Number <;> simp [-List.getD_eq_getElem?_getD, h, h1, h2]
  · by_cases h2 : a.Replica < b.Replica <;> simp [-List.getD_eq_getElem?_getD, h, h2]
theorem ref_Ahead_eq (a b : THold) : usufructref06_Ahead a b = some (decide (HLt a b)) := sd (by simp [-List.getD_eq_getElem?_getD, HLt])

def Rts (l : List THold) : Prop := (∀ h ∈ l, HOk h) ∧ l.Pairwise HLt ∧ l.length ≤ 16
instance (l : List THold) : Decidable (Rts l) := by unfold Rts; infer_instance
def Link (l : List THold) (i : Nat) : Prop := HOk (l.getD i default) ∧ (0 < i → HLt (l.getD (i - 1) default) (l.getD i default))
instance (l : List THold) : DecidablePred (Link l) := fun i => by unfold Link; infer_instance
theorem links_iff (l : List THold) : (∀ i, i < l.length → Link l i) ↔ (∀ h ∈ l, HOk h) ∧ l.Pairwise HLt := by
  constructor
  · intro h
    refine ⟨fun x hx => ?_, ?_⟩
    · obtain ⟨i, hi, rfl⟩ := List.getElem_of_mem hx
      simpa [List.getD, hi] using (h i hi).1
    · rw [List.pairwise_iff_getElem]
      intro i j hi hj hij
      induction j with
      | zero => omega
      | succ j ih =>
        have h1 := (h (j + 1) hj).2 (by omega)
        have e1 : l.getD (j + 1 - 1) default = l[j] := by simp [List.getD, show j < l.length by omega]
        have e2 : l.getD (j + 1) default = l[j + 1] := by simp [List.getD, hj]
        rw [e1, e2] at h1
        rcases Nat.lt_succ_iff_lt_or_eq.1 hij with h2 | rfl
        · exact (ih (by omega) h2).trans h1
        · exact h1
  · rintro ⟨h1, h2⟩ i hi
    rw [List.pairwise_iff_getElem] at h2
    refine ⟨by rw [show l.getD i default = l[i] by simp [List.getD, hi]]; exact h1 _ (List.getElem_mem hi), fun h0 => ?_⟩
    rw [show l.getD i default = l[i] by simp [List.getD, hi], show l.getD (i - 1) default = l[i - 1] by simp [List.getD, show i - 1 < l.length by omega]]
    exact h2 _ _ (by omega) hi (by omega)

theorem hold_Rights_eq (l : List THold) (hl : l.length ≤ 1000000000000000) : hold_Rights l = some (decide (Rts l)) := by
  unfold hold_Rights
  rw [loop_all l.length hl (Link l) false () (fun i hi => ?_) (by simp [-List.getD_eq_getElem?_getD, hold_Rights_L1])]
  · by_cases h : ∀ i, i < l.length → Link l i
    · rw [if_pos h]
      have := (links_iff l).1 h
      refine sd ?_
      simp only [Rts, this.1, this.2, true_and, decide_eq_true_eq]
      exact ⟨fun h => ⟨this.1, by omega⟩, fun h => by omega⟩
    · rw [if_neg h]
      have : ¬ Rts l := fun h2 => h ((links_iff l).2 ⟨h2.1, h2.2.1⟩)
      simp [-List.getD_eq_getElem?_getD, this]
  · simp only [hold_Rights_L1, hold_Right_eq, six_of hi, letM_eq, Option.bind]
    rw [if_pos (by simp; omega)]
    simp only [wr_succ (show i < 1000000000000000 by omega)]
    by_cases h1 : HOk (l.getD i default)
    · by_cases h0 : 0 < i
      · rw [gd_t (by simp [-List.getD_eq_getElem?_getD, h1, h0]), wr_pred h0 (by omega), six_of (by omega)]
        simp only [Option.bind]
        rw [gd_t (by simp [-List.getD_eq_getElem?_getD, h1, h0]), hold_compare_eq]
        simp only [Option.bind, cmp_ge, Link, h1, h0, true_and]
        by_cases h2 : HLt (l.getD (i - 1) default) (l.getD i default) <;> simp [-List.getD_eq_getElem?_getD, h2, h0]
      · obtain rfl : i = 0 := by omega
        simp [-List.getD_eq_getElem?_getD, h1, Link]
    · have : ¬ Link l i := fun h => h1 h.1
      rw [gd_f (by simp [-List.getD_eq_getElem?_getD, h1])]
      simp only [Option.bind]
      rw [gd_f (by simp [-List.getD_eq_getElem?_getD, h1])]
      simp [-List.getD_eq_getElem?_getD, h1, this]
theorem ref_Rights_eq (l : List THold) (hl : l.length ≤ 1000000000000000) : usufructref06_Rights l = some (decide (Rts l)) := by
  unfold usufructref06_Rights
  rw [loop_all l.length hl (Link l) false () (fun i hi => ?_) (by simp [-List.getD_eq_getElem?_getD, usufructref06_Rights_L1])]
  · by_cases h : ∀ i, i < l.length → Link l i
    · rw [if_pos h]
      have := (links_iff l).1 h
      refine sd ?_
      simp only [Rts, this.1, this.2, true_and, decide_eq_true_eq]
      exact ⟨fun h => ⟨this.1, by omega⟩, fun h => by omega⟩
    · rw [if_neg h]
      have : ¬ Rts l := fun h2 => h ((links_iff l).2 ⟨h2.1, h2.2.1⟩)
      simp [-List.getD_eq_getElem?_getD, this]
  · simp only [usufructref06_Rights_L1, ref_Right_eq, six_of hi, letM_eq, Option.bind]
    rw [if_pos (by simp; omega)]
    simp only [wr_succ (show i < 1000000000000000 by omega)]
    by_cases h1 : HOk (l.getD i default)
    · by_cases h0 : 0 < i
      · rw [gd_t (by simp [-List.getD_eq_getElem?_getD, h1, h0]), wr_pred h0 (by omega), six_of (by omega)]
        simp only [Option.bind]
        rw [gd_t (by simp [-List.getD_eq_getElem?_getD, h1, h0])]
        simp only [Option.bind]
        rw [gd_t (by simp [-List.getD_eq_getElem?_getD, h1, h0]), ref_Ahead_eq]
        simp only [Option.bind, Link, h1, h0, true_and]
        by_cases h2 : HLt (l.getD (i - 1) default) (l.getD i default) <;> simp [-List.getD_eq_getElem?_getD, h2, h0]
      · obtain rfl : i = 0 := by omega
        simp [-List.getD_eq_getElem?_getD, h1, Link]
    · have : ¬ Link l i := fun h => h1 h.1
      rw [gd_f (by simp [-List.getD_eq_getElem?_getD, h1])]
      simp only [Option.bind]
      rw [gd_f (by simp [-List.getD_eq_getElem?_getD, h1])]
      simp only [Option.bind]
      rw [gd_f (by simp [-List.getD_eq_getElem?_getD, h1])]
      simp [-List.getD_eq_getElem?_getD, h1, this]

end Go.Av
namespace Go.Av
set_option linter.unusedSectionVars false
set_option linter.unusedVariables false
set_option linter.unusedSimpArgs false

theorem loop_first {α ξ ρ : Type} [Inhabited α] {body : Int → Option (Int ⊕ (ξ ⊕ ρ))} (l : List α) (hl : l.length ≤ 1000000000000000) (p : α → Bool) (q : Nat → ρ) (x : ξ)
    (hb : ∀ i, i < l.length → body (i : Int) = some (if p (l.getD i default) = true then .inr (.inr (q i)) else .inl (((i + 1 : Nat)) : Int))) (hf : body (l.length : Int) = some (.inr (.inl x))) :
    loopM body fuel 0 = some (match l.findIdx? p with | some i => .inr (q i) | none => .inl x) := by
  refine loopM_eq (fun i s => s = (i : Int) ∧ ∀ j, j < i → p (l.getD j default) = false) l.length hl _ ?_ ?_ ⟨rfl, fun j h => by omega⟩
  · rintro i s hi ⟨rfl, hI⟩
    rw [hb i hi]
    by_cases h : p (l.getD i default) = true
    · refine .inr ?_
      rw [if_pos h]
      have : l.findIdx? p = some i := by
        rw [List.findIdx?_eq_some_iff_getElem]
        refine ⟨hi, by simpa [List.getD, hi] using h, fun j hj => ?_⟩
        have := hI j hj
        simp [List.getD, show j < l.length by omega] at this
        simp [this]
      rw [this]
    · refine .inl ⟨_, by rw [if_neg h], rfl, fun j hj => ?_⟩
      rcases Nat.lt_succ_iff_lt_or_eq.1 hj with h2 | rfl
      · exact hI j h2
      · simpa using h
  · rintro s ⟨rfl, hI⟩
    rw [hf]
    have : l.findIdx? p = none := by
      rw [List.findIdx?_eq_none_iff]
      intro y hy
      obtain ⟨i, hi, rfl⟩ := List.getElem_of_mem hy
      simpa [List.getD, hi] using hI i hi
    rw [this]

def due (r t : Int) (h : THold) : Bool := decide (h.Replica = r) && decide (h.State = 1) && decide (h.Due < t)
def ex (r t : Int) (h : THold) : THold := if due r t h = true then { h with State := 3 } else h
def isK (r n : Int) (h : THold) : Bool := decide (h.Replica = r) && decide (h.Number = n)
end Go.Av
namespace Go.Av
set_option linter.unusedSectionVars false
set_option linter.unusedVariables false
set_option linter.unusedSimpArgs false

/-- Another key. -/
def Off (h x : THold) : Prop := ¬ (h.Replica = x.Replica ∧ h.Number = x.Number)
theorem HLt.off {a b : THold} (h : HLt a b) : Off a b ∧ Off b a := by unfold HLt Off at *; omega
end Go.Av
namespace Go.Av
set_option linter.unusedSectionVars false
set_option linter.unusedVariables false
set_option linter.unusedSimpArgs false

def val (r : Int) (h : THold) : Int := if h.Replica = r ∧ h.State = 1 then h.Amount else 0
end Go.Av
namespace Go.Av
set_option linter.unusedSectionVars false
set_option linter.unusedVariables false
set_option linter.unusedSimpArgs false

def bump (x h : THold) : THold := { x with State := max x.State h.State }
def upd (l : List THold) (h : THold) : List THold := l.map fun x => if isK h.Replica h.Number x = true then bump x h else x
def fits (x h : THold) : Prop := x.Amount = h.Amount ∧ x.Due = h.Due
instance (x h : THold) : Decidable (fits x h) := by unfold fits; infer_instance
def lookH (l : List THold) (r n : Int) : Option THold := l.find? (isK r n)
def jstep (ins : List THold → THold → List THold) (m : List THold) (h : THold) : Option (List THold) :=
  match lookH m h.Replica h.Number with
  | none => some (ins m h)
  | some x => if fits x h then some (upd m h) else none

theorem isK_iff {r n : Int} {x : THold} : isK r n x = true ↔ x.Replica = r ∧ x.Number = n := by simp [isK]
theorem Off.symm {a b : THold} (h : Off a b) : Off b a := by unfold Off at *; omega
theorem lookH_none {l : List THold} {r n : Int} : lookH l r n = none ↔ ∀ x ∈ l, ¬ (x.Replica = r ∧ x.Number = n) := by
  rw [lookH, List.find?_eq_none]
  exact ⟨fun h x hx hk => h x hx (isK_iff.2 hk), fun h x hx hk => h x hx (isK_iff.1 hk)⟩
theorem upd_off {l : List THold} (h : THold) (ho : l.Pairwise Off) : (upd l h).Pairwise Off := by
  unfold upd
  rw [List.pairwise_map]
  refine ho.imp fun {a b} k => ?_
  unfold Off at *
  split <;> split <;> exact k
end Go.Av
namespace Go.Av
set_option linter.unusedSectionVars false
set_option linter.unusedVariables false
set_option linter.unusedSimpArgs false

theorem upd_key (s : List THold) (h : THold) (j : Nat) : ((upd s h).getD j default).Replica = (s.getD j default).Replica ∧ ((upd s h).getD j default).Number = (s.getD j default).Number := by
  unfold upd
  rw [List.getD, List.getD, List.getElem?_map]
  cases s[j]? with
  | none => exact ⟨rfl, rfl⟩
  | some x => simp only [Option.map_some, Option.getD_some]; split <;> exact ⟨rfl, rfl⟩
def InvJ (a b : List THold) (i : Nat) (s : List THold) : Prop :=
  s.Pairwise Off ∧ a.length ≤ s.length ∧ s.length ≤ a.length + i ∧ (∀ j, j < a.length → (s.getD j default).Replica = (a.getD j default).Replica ∧ (s.getD j default).Number = (a.getD j default).Number) ∧
    ∀ j, a.length ≤ j → j < s.length → ∃ q, q < i ∧ (s.getD j default).Replica = (b.getD q default).Replica ∧ (s.getD j default).Number = (b.getD q default).Number

theorem InvJ.step {a b s s' : List THold} {i : Nat} (hJ : InvJ a b i s) (hi : i < b.length) (hs : jstep (fun l h => l ++ [h]) s (b.getD i default) = some s') : InvJ a b (i + 1) s' := by
  obtain ⟨h1, h2, h3, h4, h5⟩ := hJ
  unfold jstep at hs
  cases hl : lookH s (b.getD i default).Replica (b.getD i default).Number with
  | none =>
    rw [hl] at hs; simp only [Option.some.injEq] at hs; subst hs
    have hn := lookH_none.1 hl
    refine ⟨?_, by simp; omega, by simp; omega, fun j hj => ?_, fun j hj hj2 => ?_⟩
    · rw [List.pairwise_append]
      refine ⟨h1, by simp, fun x hx y hy => ?_⟩
      rw [List.mem_singleton.1 hy]
      exact fun k => hn x hx k
    · rw [show (s ++ [b.getD i default]).getD j default = s.getD j default by rw [List.getD, List.getElem?_append_left (by omega)]; rfl]
      exact h4 j hj
    · by_cases hj3 : j < s.length
      · rw [show (s ++ [b.getD i default]).getD j default = s.getD j default by rw [List.getD, List.getElem?_append_left hj3]; rfl]
        obtain ⟨q, h6, h7⟩ := h5 j hj hj3
        exact ⟨q, by omega, h7⟩
      · simp only [List.length_append, List.length_singleton] at hj2
        obtain rfl : j = s.length := by omega
        rw [show (s ++ [b.getD i default]).getD s.length default = b.getD i default by rw [List.getD, List.getElem?_append_right (Nat.le_refl _), Nat.sub_self]; rfl]
        exact ⟨i, by omega, rfl, rfl⟩
  | some x =>
    rw [hl] at hs; simp only at hs
    split at hs
    · simp only [Option.some.injEq] at hs; subst hs
      have hle : (upd s (b.getD i default)).length = s.length := by simp only [upd, List.length_map]
      refine ⟨upd_off _ h1, by omega, by omega, fun j hj => ?_, fun j hj hj2 => ?_⟩
      · rw [(upd_key s _ j).1, (upd_key s _ j).2]; exact h4 j hj
      · obtain ⟨q, h6, h7⟩ := h5 j hj (by omega)
        exact ⟨q, by omega, by rw [(upd_key s _ j).1, (upd_key s _ j).2]; exact h7⟩
    · cases hs

end Go.Av
namespace Go.Av
set_option linter.unusedSectionVars false
set_option linter.unusedVariables false
set_option linter.unusedSimpArgs false

def cf : Option THold → Option THold → Prop
  | some x, some y => ¬ fits x y
  | _, _ => False
theorem fits.symm {x y : THold} (h : fits x y) : fits y x := ⟨h.1.symm, h.2.symm⟩

end Go.Av
namespace Go.Av
set_option linter.unusedSectionVars false
set_option linter.unusedVariables false
set_option linter.unusedSimpArgs false

theorem checked_eq (a : Int) (l : List Int) (hl : l.length ≤ 1000000000000) : num_checked a l = some (if ∀ x ∈ l ++ [a], IsN x then (a, 0) else (0, 2)) := by
  unfold num_checked
  rw [app_of (by simp; omega)]
  simp only [Option.bind]
  have hn : (l ++ [a]).length ≤ 1000000000000000 := by simp; omega
  generalize l ++ [a] = m at hn
  rw [loop_all m.length hn (fun i => IsN (m.getD i default)) (0, 2) () (fun i hi => ?_) (by simp [num_checked_L1])]
  · by_cases h : ∀ x ∈ m, IsN x
    · rw [if_pos (fun i hi => h _ (by simp [List.getD, hi])), if_pos h]; rfl
    · rw [if_neg (fun h2 => h fun x hx => by obtain ⟨i, hi, rfl⟩ := List.getElem_of_mem hx; simpa [List.getD, hi] using h2 i hi), if_neg h]; rfl
  · simp only [num_checked_L1, six_of hi, num_Is_eq, Option.bind]
    rw [if_pos (by simp; omega)]
    simp only [wr_succ (show i < 1000000000000000 by omega)]
    by_cases h : IsN (m.getD i default)
    · rw [if_neg (by rw [decide_eq_true h]; decide), if_pos h]
    · rw [if_pos (by rw [decide_eq_false h]; rfl), if_neg h]

def addS (a b : Int) : Int × Int := if IsN a ∧ IsN b ∧ IsN (a + b) then (a + b, 0) else (0, 2)
theorem num_Add_eq (a b : Int) : num_Add a b = some (addS a b) := by
  unfold num_Add addS
  rw [checked_eq _ _ (by simp)]
  simp only [Option.bind]
  by_cases h : IsN a ∧ IsN b
  · have hw : wr .i64 (a + b) = a + b := wr_id (by unfold IsN at h; omega)
    rw [hw]
    by_cases h2 : IsN (a + b)
    · rw [if_pos (by simp [h.1, h.2, h2]), if_pos ⟨h.1, h.2, h2⟩]
    · rw [if_neg (by simp [h.1, h.2, h2]), if_neg (fun x => h2 x.2.2)]
  · rw [if_neg (fun x => h ⟨x a (by simp), x b (by simp)⟩), if_neg (fun x => h ⟨x.1, x.2.1⟩)]
theorem ref_Add_eq (a b : Int) : usufructref01_Add a b = some (addS a b) := by
  unfold usufructref01_Add addS
  simp only [ref_Is_eq, Option.bind]
  by_cases h1 : IsN a
  · rw [gd_t (by rw [decide_eq_true h1]; rfl)]
    simp only []
    by_cases h2 : IsN b
    · have hw : wr .i64 (a + b) = a + b := wr_id (by unfold IsN at h1 h2; omega)
      rw [hw, gd_t (by rw [decide_eq_true h1, decide_eq_true h2]; rfl)]
      simp only []
      by_cases h3 : IsN (a + b)
      · rw [if_neg (by rw [decide_eq_true h1, decide_eq_true h2, decide_eq_true h3]; decide), if_pos ⟨h1, h2, h3⟩]
      · rw [if_pos (by rw [decide_eq_false h3]; simp), if_neg (fun x => h3 x.2.2)]
    · rw [gd_f (by rw [decide_eq_false h2]; simp)]
      simp only []
      rw [if_pos (by rw [decide_eq_false h2]; simp), if_neg (fun x => h2 x.2.1)]
  · rw [gd_f (by rw [decide_eq_false h1]; decide)]
    simp only []
    rw [gd_f (by rw [decide_eq_false h1]; simp)]
    simp only []
    rw [if_pos (by rw [decide_eq_false h1]; simp), if_neg (fun x => h1 x.1)]

/-- All, added; none, if it is too great on the way. -/
def sumO : Int → List Int → Option Int
  | n, [] => some n
  | n, x :: t => if (addS n x).2 = 0 then sumO (addS n x).1 t else none
def sumS (l : List Int) : Int × Int := match sumO 0 l with | some n => (n, 0) | none => (0, 2)
theorem addS_err (a b : Int) (h : (addS a b).2 ≠ 0) : (addS a b).2 = 2 := by
  by_cases hc : IsN a ∧ IsN b ∧ IsN (a + b)
  · rw [addS, if_pos hc] at h; exact (h rfl).elim
  · rw [addS, if_neg hc]
theorem sum_loop' (l : List Int) {ρ : Type} {body : Int × Int → Option ((Int × Int) ⊕ ρ)} (fin : Int → Option ρ) (er : Option ρ)
    (hb : ∀ (i : Nat) (n : Int), i < l.length → body ((i : Int), n) = if (addS n (l.getD i default)).2 = 0 then some (.inl ((((i + 1 : Nat)) : Int), (addS n (l.getD i default)).1)) else er.map .inr) (hf : ∀ n, body ((l.length : Int), n) = (fin n).map .inr) :
    ∀ (k i : Nat) (n : Int), i + k = l.length → ∀ m, k < m → loopM body m ((i : Int), n) = match sumO n (l.drop i) with | some n => fin n | none => er
  | k, i, n, hk, 0, hm => by omega
  | 0, i, n, hk, m + 1, hm => by
    obtain rfl : i = l.length := by omega
    rw [List.drop_length]
    simp only [loopM, hf, sumO]
    cases fin n <;> rfl
  | k + 1, i, n, hk, m + 1, hm => by
    have hi : i < l.length := by omega
    have hd : l.drop i = l.getD i default :: l.drop (i + 1) := by rw [List.drop_eq_getElem_cons hi]; simp [List.getD, hi]
    rw [hd, sumO]
    simp only [loopM, hb i n hi]
    by_cases h : (addS n (l.getD i default)).2 = 0
    · rw [if_pos h, if_pos h]
      exact sum_loop' l fin er hb hf k (i + 1) _ (by omega) m (by omega)
    · rw [if_neg h, if_neg h]
      cases er <;> rfl
theorem sum_loop (l : List Int) (hl : l.length ≤ 1000000000000) {ρ : Type} {body : Int × Int → Option ((Int × Int) ⊕ ρ)} (fin : Int → Option ρ) (er : Option ρ)
    (hb : ∀ (i : Nat) (n : Int), i < l.length → body ((i : Int), n) = if (addS n (l.getD i default)).2 = 0 then some (.inl ((((i + 1 : Nat)) : Int), (addS n (l.getD i default)).1)) else er.map .inr) (hf : ∀ n, body ((l.length : Int), n) = (fin n).map .inr) :
    loopM body fuel (0, 0) = match sumO 0 l with | some n => fin n | none => er :=
  sum_loop' l fin er hb hf l.length 0 0 (by omega) fuel (by have := fuel_big; omega)
theorem ref_Sum_eq1 (l : List Int) (hl : l.length ≤ 1000000000000) : usufructref01_Sum l = some (sumS l) := by
  unfold usufructref01_Sum sumS
  rw [sum_loop l hl (fun n => some (.inl n : Int ⊕ (Int × Int))) (some (.inr (0, 2))) (fun i n hi => ?_) (fun n => by simp [usufructref01_Sum_L1])]
  · cases sumO 0 l <;> rfl
  · simp only [usufructref01_Sum_L1, six_of hi, ref_Add_eq, Option.bind]
    rw [if_pos (by simp; omega)]
    simp only [wr_succ (show i < 1000000000000000 by omega)]
    by_cases h : (addS n (l.getD i default)).2 = 0
    · rw [if_neg (by rw [decide_eq_true h]; decide), if_pos h]
    · rw [if_pos (by rw [decide_eq_false h]; rfl), if_neg h, addS_err _ _ h]; rfl
theorem num_Sum_eq (l : List Int) (hl : l.length ≤ 1000000000000) : num_Sum l = some (sumS l) := by
  have h1 : num_Sum_1 l = sumO 0 l := by
    unfold num_Sum_1
    rw [sum_loop l hl (fun n => some n) none (fun i n hi => ?_) (fun n => by simp [num_Sum_1_L1])]
    · cases sumO 0 l <;> rfl
    · simp only [num_Sum_1_L1, six_of hi, num_Add_eq, num_Must, Option.bind]
      rw [if_pos (by simp; omega)]
      simp only [wr_succ (show i < 1000000000000000 by omega)]
      by_cases h : (addS n (l.getD i default)).2 = 0
      · rw [if_neg (by rw [decide_eq_true h]; decide), if_pos h]
      · rw [if_pos (by rw [decide_eq_false h]; rfl), if_neg h]; rfl
  have h2 : num_Sum_P l = match sumO 0 l with | some _ => none | none => some 2 := by
    unfold num_Sum_P
    rw [sum_loop l hl (fun n => none) (some 2) (fun i n hi => ?_) (fun n => by simp [num_Sum_P_L1])]
    simp only [num_Sum_P_L1, six_of hi, num_Add_eq, Option.bind]
    rw [if_pos (by simp; omega)]
    simp only [wr_succ (show i < 1000000000000000 by omega)]
    by_cases h : (addS n (l.getD i default)).2 = 0
    · rw [if_pos (by rw [decide_eq_true h]), if_pos h]
    · rw [if_neg (by rw [decide_eq_false h]; decide), if_neg h, addS_err _ _ h]; rfl
  unfold num_Sum sumS
  rw [h1, h2]
  cases sumO 0 l <;> rfl
end Go.Av
namespace Go.Av
set_option linter.unusedSectionVars false
set_option linter.unusedVariables false
set_option linter.unusedSimpArgs false

def VOk (v : Vector Int 16) : Prop := ∀ k : Fin 16, 0 ≤ v.get k ∧ v.get k ≤ 1099511627776
instance (v : Vector Int 16) : Decidable (VOk v) := by unfold VOk; infer_instance
def at16 (v : Vector Int 16) (i : Nat) : Int := if h : i < 16 then v.get ⟨i, h⟩ else 0
theorem VOk_iff (v : Vector Int 16) : (∀ i, i < 16 → 0 ≤ at16 v i ∧ at16 v i ≤ 1099511627776) ↔ VOk v := by
  constructor
  · intro h k
    have := h k.1 k.2
    unfold at16 at this
    rw [dif_pos k.2] at this
    exact this
  · intro h i hi
    unfold at16
    rw [dif_pos hi]
    exact h ⟨i, hi⟩
theorem ref02_Right_eq (v : Vector Int 16) : usufructref02_Right v = some (decide (VOk v)) := by
  unfold usufructref02_Right
  rw [loop_all 16 (by omega) (fun i => 0 ≤ at16 v i ∧ at16 v i ≤ 1099511627776) false () (fun i hi => ?_) (by simp [usufructref02_Right_L1])]
  · by_cases h : VOk v
    · rw [if_pos ((VOk_iff v).2 h), decide_eq_true h]; rfl
    · rw [if_neg (fun k => h ((VOk_iff v).1 k)), decide_eq_false h]; rfl
  · have e : at16 v i = v.get ⟨i, hi⟩ := by unfold at16; rw [dif_pos hi]
    simp only [usufructref02_Right_L1, fix_of hi, Option.bind, e]
    rw [if_pos (by simp; omega)]
    simp only [wr_succ (show i < 1000000000000000 by omega)]
    by_cases h1 : v.get ⟨i, hi⟩ < 0
    · rw [gd_f (by rw [decide_eq_true h1]; decide)]
      simp only []
      rw [if_pos (by rw [decide_eq_true h1]; rfl), if_neg (by omega)]
    · rw [gd_t (by rw [decide_eq_false h1])]
      simp only []
      by_cases h2 : 1099511627776 < v.get ⟨i, hi⟩
      · rw [if_pos (by rw [decide_eq_true h2]; simp), if_neg (by omega)]
      · rw [if_neg (by rw [decide_eq_false h1, decide_eq_false h2]; decide), if_pos (by omega)]
theorem ref02_Sum_eq (v : Vector Int 16) : usufructref02_Sum v = some (sumS v.toList) := by
  unfold usufructref02_Sum
  rw [ref_Sum_eq1 _ (by simp)]; rfl

def ROk (r : TRights) : Prop := VOk r.Given ∧ VOk r.Used ∧ ∀ k : Fin 16, VOk (r.Moved.get k) ∧ (r.Moved.get k).get k = 0
instance (r : TRights) : Decidable (ROk r) := by unfold ROk; infer_instance
def row (r : TRights) (i : Nat) : Prop := ∀ h : i < 16, VOk (r.Moved.get ⟨i, h⟩) ∧ (r.Moved.get ⟨i, h⟩).get ⟨i, h⟩ = 0
instance (r : TRights) (i : Nat) : Decidable (row r i) := by unfold row; infer_instance
theorem ref03_Right_eq (r : TRights) : usufructref03_Right r = some (decide (ROk r)) := by
  unfold usufructref03_Right
  rw [ref02_Right_eq, ref02_Right_eq]
  have hb : ∀ b : Bool, loopM (usufructref03_Right_L1 r) fuel (0, b) = some (b && decide (∀ i : Nat, i < 16 → row r i)) := fun b => by
    refine loopM_eq (fun i s => s = ((i : Int), b && decide (∀ j, j < i → row r j))) 16 (by omega) _ ?_ ?_ (by simp)
    · rintro i s hi rfl
      refine .inl ⟨_, ?_, rfl⟩
      have hsucc : (∀ j, j < i + 1 → row r j) ↔ (∀ j, j < i → row r j) ∧ row r i :=
        ⟨fun h => ⟨fun j hj => h j (by omega), h i (by omega)⟩, fun h j hj => by rcases Nat.lt_succ_iff_lt_or_eq.1 hj with h2 | rfl; exact h.1 j h2; exact h.2⟩
      have hrow : row r i ↔ VOk (r.Moved.get ⟨i, hi⟩) ∧ (r.Moved.get ⟨i, hi⟩).get ⟨i, hi⟩ = 0 := ⟨fun h => h hi, fun h _ => h⟩
      simp only [usufructref03_Right_L1, fix_of hi, Option.bind]
      rw [if_pos (by simp; omega)]
      simp only [wr_succ (show i < 1000000000000000 by omega), letM_eq]
      generalize hB : (b && decide (∀ j, j < i → row r j)) = B
      have hR : (b && decide (∀ j, j < i + 1 → row r j)) = (B && decide (row r i)) := by
        rw [← hB]
        apply Bool.eq_iff_iff.2
        simp only [Bool.and_eq_true, decide_eq_true_eq, hsucc]
        exact ⟨fun h => ⟨⟨h.1, h.2.1⟩, h.2.2⟩, fun h => ⟨h.1.1, h.1.2, h.2⟩⟩
      rw [hR]
      cases B with
      | false => simp [gd]
      | true =>
        rw [gd_t rfl]
        simp only []
        rw [gd_t trivial, ref02_Right_eq]
        simp only [Bool.true_and]
        by_cases h1 : VOk (r.Moved.get ⟨i, hi⟩)
        · rw [gd_t (decide_eq_true h1)]
          simp only []
          by_cases h2 : (r.Moved.get ⟨i, hi⟩).get ⟨i, hi⟩ = 0
          · rw [decide_eq_true h1, decide_eq_true h2, decide_eq_true (hrow.2 ⟨h1, h2⟩)]; rfl
          · rw [decide_eq_false h2, decide_eq_false (fun k => h2 (hrow.1 k).2), Bool.and_false]
        · rw [gd_f (by rw [decide_eq_false h1]; decide)]
          simp only []
          rw [decide_eq_false h1, decide_eq_false (fun k => h1 (hrow.1 k).1)]; rfl
    · rintro s rfl
      simp [usufructref03_Right_L1]
  have hrows : (∀ i : Nat, i < 16 → row r i) ↔ ∀ k : Fin 16, VOk (r.Moved.get k) ∧ (r.Moved.get k).get k = 0 :=
    ⟨fun h k => h k.1 k.2 k.2, fun h i hi _ => h ⟨i, hi⟩⟩
  simp only [Option.bind, gd_and]
  rw [hb]
  refine sd ?_
  simp only [Bool.and_eq_true, Bool.if_false_right, decide_eq_true_eq, hrows]
  unfold ROk
  exact ⟨fun h => ⟨h.1.1, h.1.2.2, h.2⟩, fun h => ⟨⟨h.1, h.1, h.2.1⟩, h.2.2⟩⟩

/-- What was given is what must be. -/
def gives (g u : Vector Int 16) (room : Int) : Prop := (sumS g.toList).2 = 0 ∧ (sumS u.toList).2 = 0 ∧ (addS room (sumS u.toList).1).2 = 0 ∧ (sumS g.toList).1 = (addS room (sumS u.toList).1).1
instance (g u : Vector Int 16) (room : Int) : Decidable (gives g u room) := by unfold gives; infer_instance
def COk (c : TCounter) : Prop := IsN c.Init ∧ IsN c.Low ∧ IsN c.High ∧ c.Low ≤ c.Init ∧ c.Init ≤ c.High ∧ ROk c.Down ∧ ROk c.Up ∧ gives c.Down.Given c.Up.Used (c.Init - c.Low) ∧ gives c.Up.Given c.Down.Used (c.High - c.Init)
instance (c : TCounter) : Decidable (COk c) := by unfold COk; infer_instance
theorem gd_nb {p : Prop} [Decidable p] {b : Bool} : gd p (some b) = some (if p then b else false) := by by_cases h : p <;> simp [gd, h]
theorem ref04_Right_eq (c : TCounter) : usufructref04_Right c = some (decide (COk c)) := by
  unfold usufructref04_Right
  simp only [ref_Is_eq, ref03_Right_eq, ref02_Sum_eq, ref_Add_eq, Option.bind, gd_nb, letM_eq]
  by_cases h : IsN c.Init ∧ IsN c.Low ∧ IsN c.High ∧ c.Low ≤ c.Init ∧ c.Init ≤ c.High ∧ ROk c.Down ∧ ROk c.Up
  · obtain ⟨h1, h2, h3, h4, h5, h6, h7⟩ := h
    have w1 : wr .i64 (c.Init - c.Low) = c.Init - c.Low := wr_id (by unfold IsN at *; omega)
    have w2 : wr .i64 (c.High - c.Init) = c.High - c.Init := wr_id (by unfold IsN at *; omega)
    rw [if_neg (by simp [h1, h2, h3, h6, h7]; omega), w1, w2]
    refine sd ?_
    simp only [Bool.and_eq_true, decide_eq_true_eq, and_assoc]
    unfold COk gives
    constructor
    · rintro ⟨a, b, d, e, f, g, i, j⟩
      exact ⟨h1, h2, h3, h4, h5, h6, h7, ⟨a, b, d, i⟩, e, f, g, j⟩
    · rintro ⟨_, _, _, _, _, _, _, ⟨a, b, d, i⟩, e, f, g, j⟩
      exact ⟨a, b, d, e, f, g, i, j⟩
  · have hn : ¬ COk c := fun k => h ⟨k.1, k.2.1, k.2.2.1, k.2.2.2.1, k.2.2.2.2.1, k.2.2.2.2.2.1, k.2.2.2.2.2.2.1⟩
    rw [if_pos, decide_eq_false hn]
    by_cases h1 : IsN c.Init <;> by_cases h2 : IsN c.Low <;> by_cases h3 : IsN c.High <;> by_cases h4 : c.Init < c.Low <;> by_cases h5 : c.High < c.Init <;> by_cases h6 : ROk c.Down <;> by_cases h7 : ROk c.Up <;> simp [h1, h2, h3, h4, h5, h6, h7]
    exact h ⟨h1, h2, h3, by omega, by omega, h6, h7⟩
end Go.Av
namespace Go.Av
set_option linter.unusedSectionVars false
set_option linter.unusedVariables false
set_option linter.unusedSimpArgs false

theorem foldl_app {α : Type} (g : Nat → α) : ∀ (n : Nat) (l : List α), (List.range n).foldl (fun s i => s ++ [g i]) l = l ++ (List.range n).map g
  | 0, l => by simp
  | n + 1, l => by rw [List.range_succ, List.foldl_append, foldl_app g n l]; simp
def negs (v : Vector Int 16) : List Int := (List.range 16).map fun i => wr .i64 (0 - at16 v i)
def valL (c : TCounter) : List Int := [c.Init] ++ c.Up.Used.toList ++ negs c.Down.Used
theorem counter_Value_eq (c : TCounter) : counter_Value c = some (sumS (valL c)) := by
  unfold counter_Value
  rw [app_of (by simp)]
  simp only [Option.bind]
  have hlen : ([c.Init] ++ c.Up.Used.toList).length = 17 := by simp
  have hv : (valL c).length ≤ 1000000000000 := by simp [valL, negs]
  rw [(loop_fold 16 (by omega) (fun s i => s ++ [wr .i64 (0 - at16 c.Down.Used i)]) id (fun i s => s.length = 17 + i) hlen (fun i s hi hJ => ⟨?_, by simp; omega⟩) (fun s _ => by simp [counter_Value_L1])).1]
  · simp only [id]
    rw [foldl_app]
    rw [show [c.Init] ++ c.Up.Used.toList ++ (List.range 16).map (fun i => wr .i64 (0 - at16 c.Down.Used i)) = valL c from rfl, num_Sum_eq _ hv]
  · have e : at16 c.Down.Used i = c.Down.Used.get ⟨i, hi⟩ := by unfold at16; rw [dif_pos hi]
    simp only [counter_Value_L1, fix_of hi, Option.bind]
    rw [if_pos (by simp; omega), app_of (by simp; omega)]
    simp only [wr_succ (show i < 1000000000000000 by omega), e]
theorem at16_list (v : Vector Int 16) : (List.range 16).map (at16 v) = v.toList := by
  apply List.ext_getElem (by simp)
  intro i h1 h2
  have hi : i < 16 := by simpa using h1
  rw [List.getElem_map, List.getElem_range, at16, dif_pos hi, Vector.getElem_toList]
  rfl
/-- A loop that puts sixteen numbers behind others. -/
theorem app_loop {body : Int × List Int → Option ((Int × List Int) ⊕ List Int)} (g : Nat → Int) (l : List Int) (hl : l.length ≤ 1000000) (hb : ∀ (i : Nat) (s : List Int), i < 16 → s.length ≤ 1000016 → body ((i : Int), s) = some (.inl ((((i + 1 : Nat)) : Int), s ++ [g i]))) (hf : ∀ s, body ((16 : Int), s) = some (.inr s)) :
    loopM body fuel (0, l) = some (l ++ (List.range 16).map g) := by
  rw [(loop_fold 16 (by omega) (fun s i => s ++ [g i]) id (fun i s => s.length = l.length + i) rfl (fun i s hi hJ => ⟨hb i s hi (by omega), by simp; omega⟩) (fun s _ => hf s)).1]
  simp only [id]
  rw [foldl_app]
end Go.Av
namespace Go.Av
set_option linter.unusedSectionVars false
set_option linter.unusedVariables false
set_option linter.unusedSimpArgs false

theorem ref04_Value_eq (c : TCounter) : usufructref04_Value c = some (sumS (valL c)) := by
  unfold usufructref04_Value
  rw [app_loop (at16 c.Up.Used) _ (by simp) (fun i s hi hs => ?_) (fun s => by simp [usufructref04_Value_L1])]
  · simp only [Option.bind]
    rw [app_loop (fun i => wr .i64 (0 - at16 c.Down.Used i)) _ (by simp) (fun i s hi hs => ?_) (fun s => by simp [usufructref04_Value_L2])]
    · simp only []
      rw [at16_list, show [c.Init] ++ c.Up.Used.toList ++ (List.range 16).map (fun i => wr .i64 (0 - at16 c.Down.Used i)) = valL c from rfl, ref_Sum_eq1 _ (by simp [valL, negs])]
    · have e : at16 c.Down.Used i = c.Down.Used.get ⟨i, hi⟩ := by unfold at16; rw [dif_pos hi]
      simp only [usufructref04_Value_L2, fix_of hi, Option.bind]
      rw [if_pos (by simp; omega), app_of (by simp; omega)]
      simp only [wr_succ (show i < 1000000000000000 by omega), e]
  · have e : at16 c.Up.Used i = c.Up.Used.get ⟨i, hi⟩ := by unfold at16; rw [dif_pos hi]
    simp only [usufructref04_Value_L1, fix_of hi, Option.bind]
    rw [if_pos (by simp; omega), app_of (by simp; omega)]
    simp only [wr_succ (show i < 1000000000000000 by omega), e]

end Go.Av
namespace Go.Av
set_option linter.unusedSectionVars false
set_option linter.unusedVariables false
set_option linter.unusedSimpArgs false

theorem vec_Right_eq (v : Vector Int 16) : vec_Right v = some (decide (VOk v)) := by
  unfold vec_Right
  rw [loop_all 16 (by omega) (fun i => 0 ≤ at16 v i ∧ at16 v i ≤ 1099511627776) false () (fun i hi => ?_) (by simp [vec_Right_L1])]
  · by_cases h : VOk v
    · rw [if_pos ((VOk_iff v).2 h), decide_eq_true h]; rfl
    · rw [if_neg (fun k => h ((VOk_iff v).1 k)), decide_eq_false h]; rfl
  · have e : at16 v i = v.get ⟨i, hi⟩ := by unfold at16; rw [dif_pos hi]
    simp only [vec_Right_L1, fix_of hi, num_Is_eq, Option.bind, e]
    rw [if_pos (by simp; omega)]
    simp only [wr_succ (show i < 1000000000000000 by omega)]
    by_cases h1 : v.get ⟨i, hi⟩ < 0
    · rw [gd_f (by rw [decide_eq_true h1]; decide)]
      simp only []
      rw [if_pos (by rw [decide_eq_true h1]; rfl), if_neg (by omega)]
    · rw [gd_t (by rw [decide_eq_false h1])]
      simp only []
      by_cases h2 : IsN (v.get ⟨i, hi⟩)
      · rw [if_neg (by rw [decide_eq_false h1, decide_eq_true h2]; decide), if_pos (by unfold IsN at h2; omega)]
      · rw [if_pos (by rw [decide_eq_false h2]; simp), if_neg (by unfold IsN at h2; omega)]
theorem rights_Right_eq (r : TRights) : rights_Right r = some (decide (ROk r)) := by
  unfold rights_Right
  rw [vec_Right_eq, vec_Right_eq]
  simp only [Option.bind, gd_nb]
  by_cases h : VOk r.Given ∧ VOk r.Used
  · rw [if_neg (by simp [h.1, h.2])]
    rw [loop_all 16 (by omega) (row r) false () (fun i hi => ?_) (by simp [rights_Right_L1])]
    · have hrows : (∀ i : Nat, i < 16 → row r i) ↔ ∀ k : Fin 16, VOk (r.Moved.get k) ∧ (r.Moved.get k).get k = 0 :=
        ⟨fun h k => h k.1 k.2 k.2, fun h i hi _ => h ⟨i, hi⟩⟩
      by_cases h2 : ∀ i : Nat, i < 16 → row r i
      · rw [if_pos h2, decide_eq_true (show ROk r from ⟨h.1, h.2, hrows.1 h2⟩)]; rfl
      · rw [if_neg h2, decide_eq_false (show ¬ ROk r from fun k => h2 (hrows.2 k.2.2))]; rfl
    · have hrow : row r i ↔ VOk (r.Moved.get ⟨i, hi⟩) ∧ (r.Moved.get ⟨i, hi⟩).get ⟨i, hi⟩ = 0 := ⟨fun h => h hi, fun h _ => h⟩
      simp only [rights_Right_L1, fix_of hi, vec_Right_eq, letM_eq, Option.bind]
      rw [if_pos (by simp; omega)]
      simp only [wr_succ (show i < 1000000000000000 by omega)]
      by_cases h1 : VOk (r.Moved.get ⟨i, hi⟩)
      · rw [gd_t (by rw [decide_eq_true h1]; rfl)]
        simp only []
        by_cases h2 : (r.Moved.get ⟨i, hi⟩).get ⟨i, hi⟩ = 0
        · rw [if_neg (by rw [decide_eq_true h1, decide_eq_true h2]; decide), if_pos (hrow.2 ⟨h1, h2⟩)]
        · rw [if_pos (by rw [decide_eq_false h2]; simp), if_neg (fun k => h2 (hrow.1 k).2)]
      · rw [gd_f (by rw [decide_eq_false h1]; decide)]
        simp only []
        rw [if_pos (by rw [decide_eq_false h1]; rfl), if_neg (fun k => h1 (hrow.1 k).1)]
  · have hn : ¬ ROk r := fun k => h ⟨k.1, k.2.1⟩
    rw [if_pos, decide_eq_false hn]
    by_cases h1 : VOk r.Given <;> by_cases h2 : VOk r.Used <;> simp [h1, h2]
    exact h ⟨h1, h2⟩
end Go.Av
namespace Go.Av
set_option linter.unusedSectionVars false
set_option linter.unusedVariables false
set_option linter.unusedSimpArgs false

def bAt (s : ByteArray) (i : Nat) : Int := (bix s (i : Int)).getD 0
theorem bix_of {s : ByteArray} {i : Nat} (h : i < s.size) : bix s (i : Int) = some (bAt s i) := by
  unfold bAt bix
  rw [dif_pos (by omega)]
  rfl
def NameOk (s : ByteArray) : Prop := (∀ i : Nat, i < s.size → 33 ≤ bAt s i ∧ bAt s i ≤ 126) ∧ 1 ≤ s.size ∧ s.size ≤ 8
instance (s : ByteArray) : Decidable (NameOk s) := by unfold NameOk; infer_instance
theorem ref_Name_eq (s : ByteArray) (hs : s.size ≤ 1000000000000000) : usufructref07_Name s = some (decide (NameOk s)) := by
  unfold usufructref07_Name
  rw [loop_all s.size hs (fun i => 33 ≤ bAt s i ∧ bAt s i ≤ 126) false () (fun i hi => ?_) (by simp [usufructref07_Name_L1])]
  · by_cases h : ∀ i : Nat, i < s.size → 33 ≤ bAt s i ∧ bAt s i ≤ 126
    · rw [if_pos h]
      refine sd ?_
      simp only [NameOk, Bool.and_eq_true, decide_eq_true_eq]
      exact ⟨fun k => ⟨h, by omega, by omega⟩, fun k => ⟨by omega, by omega⟩⟩
    · rw [if_neg h, decide_eq_false (p := NameOk s) (fun k => h k.1)]; rfl
  · simp only [usufructref07_Name_L1, bix_of hi, Option.bind]
    rw [if_pos (by simp; omega)]
    simp only [wr_succ (show i < 1000000000000000 by omega)]
    by_cases h1 : bAt s i < 33
    · rw [gd_f (by rw [decide_eq_true h1]; decide)]
      simp only []
      rw [if_pos (by rw [decide_eq_true h1]; rfl), if_neg (by omega)]
    · rw [gd_t (by rw [decide_eq_false h1])]
      simp only []
      by_cases h2 : 126 < bAt s i
      · rw [if_pos (by rw [decide_eq_true h2]; simp), if_neg (by omega)]
      · rw [if_neg (by rw [decide_eq_false h1, decide_eq_false h2]; decide), if_pos (by omega)]
theorem field_Name_eq (s : ByteArray) (hs : s.size ≤ 1000000000000000) : field_Name s = some (decide (NameOk s)) := by
  unfold field_Name
  rw [loop_all s.size hs (fun i => 33 ≤ bAt s i ∧ bAt s i ≤ 126) false () (fun i hi => ?_) (by simp [field_Name_L1])]
  · by_cases h : ∀ i : Nat, i < s.size → 33 ≤ bAt s i ∧ bAt s i ≤ 126
    · rw [if_pos h]
      refine sd ?_
      simp only [NameOk, Bool.and_eq_true, decide_eq_true_eq]
      exact ⟨fun k => ⟨h, by omega, by omega⟩, fun k => ⟨by omega, by omega⟩⟩
    · rw [if_neg h, decide_eq_false (p := NameOk s) (fun k => h k.1)]; rfl
  · simp only [field_Name_L1, bix_of hi, Option.bind]
    rw [if_pos (by simp; omega)]
    simp only [wr_succ (show i < 1000000000000000 by omega)]
    by_cases h1 : bAt s i < 33
    · rw [gd_f (by rw [decide_eq_true h1]; decide)]
      simp only []
      rw [if_pos (by rw [decide_eq_true h1]; rfl), if_neg (by omega)]
    · rw [gd_t (by rw [decide_eq_false h1])]
      simp only []
      by_cases h2 : 126 < bAt s i
      · rw [if_pos (by rw [decide_eq_true h2]; simp), if_neg (by omega)]
      · rw [if_neg (by rw [decide_eq_false h1, decide_eq_false h2]; decide), if_pos (by omega)]

def cnt (x : Int) : Prop := 0 ≤ x ∧ IsN x
instance (x : Int) : Decidable (cnt x) := by unfold cnt; infer_instance
def LOk (l : TLock) : Prop := cnt l.Seq ∧ cnt l.Ver ∧ 0 ≤ l.Holder ∧ l.Holder ≤ 15 ∧ IsN l.Value
instance (l : TLock) : Decidable (LOk l) := by unfold LOk; infer_instance
theorem ref05_Right_eq (l : TLock) : usufructref05_Right l = some (decide (LOk l)) := by
  unfold usufructref05_Right
  simp only [ref_Is_eq, gd_and, letM_eq, Option.bind]
  refine sd ?_
  simp only [Bool.and_eq_true, Bool.if_false_right, decide_eq_true_eq]
  unfold LOk cnt IsN
  omega

def zeroC : TCounter := ⟨0, 0, 0, default, default⟩
def zeroL : TLock := ⟨0, 0, 0, 0⟩
def FOk (f : TField) : Prop := NameOk f.Name ∧ cnt f.Epoch ∧ ((f.Kind = 1 ∧ COk f.Counter ∧ Rts f.Holds ∧ f.Lock = zeroL) ∨ (f.Kind = 2 ∧ LOk f.Lock ∧ f.Holds = [] ∧ f.Counter = zeroC))
instance (f : TField) : Decidable (FOk f) := by unfold FOk; infer_instance
theorem ref07_Right_eq (f : TField) (hs : f.Name.size ≤ 1000000000000000) (hh : f.Holds.length ≤ 1000000000000) : usufructref07_Right f = some (decide (FOk f)) := by
  unfold usufructref07_Right
  simp only [ref_Name_eq _ hs, ref_Is_eq, Option.bind, gd_nb, letM_eq, ref04_Right_eq, ref_Rights_eq f.Holds (by omega), ref05_Right_eq]
  by_cases h : NameOk f.Name ∧ cnt f.Epoch
  · obtain ⟨h1, h2⟩ := h
    have h3 : ¬ f.Epoch < 0 := by unfold cnt at h2; omega
    rw [if_neg (by simp [h1, h2.2, h3])]
    by_cases hk : f.Kind = 1
    · rw [if_pos (by simp [hk])]
      refine sd ?_
      simp only [Bool.and_eq_true, decide_eq_true_eq, Bool.if_false_right]
      unfold FOk
      constructor
      · rintro ⟨⟨a, b, c⟩, d⟩
        exact ⟨h1, h2, .inl ⟨hk, a, c, d⟩⟩
      · rintro ⟨_, _, ⟨_, a, b, c⟩ | ⟨a, _⟩⟩
        · exact ⟨⟨a, a, b⟩, c⟩
        · omega
    · rw [if_neg (by simp [hk])]
      refine sd ?_
      simp only [Bool.and_eq_true, decide_eq_true_eq, Bool.if_false_right]
      unfold FOk
      have hz : ((f.Holds.length : Int) = 0) ↔ f.Holds = [] := by
        rw [← List.length_eq_zero_iff]; omega
      rw [hz]
      constructor
      · rintro ⟨⟨⟨a, a', b⟩, c⟩, d⟩
        exact ⟨h1, h2, .inr ⟨a, b, c, d⟩⟩
      · rintro ⟨_, _, ⟨a, _⟩ | ⟨a, b, c, d⟩⟩
        · omega
        · exact ⟨⟨⟨a, a, b⟩, c⟩, d⟩
  · have hn : ¬ FOk f := fun k => h ⟨k.1, k.2.1⟩
    rw [if_pos, decide_eq_false hn]
    by_cases h1 : NameOk f.Name <;> by_cases h2 : f.Epoch < 0 <;> by_cases h3 : IsN f.Epoch <;> simp [h1, h2, h3]
    exact h ⟨h1, by unfold cnt; exact ⟨by omega, h3⟩⟩
end Go.Av
namespace Go.Av
set_option linter.unusedSectionVars false
set_option linter.unusedVariables false
set_option linter.unusedSimpArgs false

def only (d : Int) : Vector Int 16 := (default : Vector Int 16).set 0 d
def NewOk (i l h : Int) : Prop := IsN i ∧ IsN l ∧ IsN h ∧ l ≤ i ∧ i ≤ h ∧ IsN (h - l)
instance (i l h : Int) : Decidable (NewOk i l h) := by unfold NewOk; infer_instance
def LNewOk (k v : Int) : Prop := (0 ≤ k ∧ k < 16) ∧ IsN v
instance (k v : Int) : Decidable (LNewOk k v) := by unfold LNewOk; infer_instance
end Go.Av
namespace Go.Av
set_option linter.unusedSectionVars false
set_option linter.unusedVariables false
set_option linter.unusedSimpArgs false

def setRow (m : Vector (Vector Int 16) 16) (i : Nat) (x : Vector Int 16) : Vector (Vector Int 16) 16 := if h : i < 16 then m.set i x h else m
end Go.Av
namespace Go.Av
set_option linter.unusedSectionVars false
set_option linter.unusedVariables false
set_option linter.unusedSimpArgs false

theorem vec_Sum_eq (v : Vector Int 16) : vec_Sum v = some (sumS v.toList) := by
  unfold vec_Sum
  rw [num_Sum_eq _ (by simp)]; rfl
theorem counter_given_eq (a b : TRights) (room : Int) : counter_given a b room = some (decide (gives a.Given b.Used room)) := by
  unfold counter_given
  simp only [vec_Sum_eq, num_Add_eq, Option.bind, letM_eq]
  refine sd ?_
  simp only [Bool.and_eq_true, decide_eq_true_eq, and_assoc]
  exact Iff.rfl
theorem counter_Right_eq (c : TCounter) : counter_Right c = some (decide (COk c)) := by
  unfold counter_Right
  simp only [num_Is_eq, rights_Right_eq, counter_given_eq, Option.bind, gd_nb, letM_eq]
  by_cases h : IsN c.Init ∧ IsN c.Low ∧ IsN c.High ∧ c.Low ≤ c.Init ∧ c.Init ≤ c.High
  · obtain ⟨h1, h2, h3, h4, h5⟩ := h
    have w1 : wr .i64 (c.Init - c.Low) = c.Init - c.Low := wr_id (by unfold IsN at *; omega)
    have w2 : wr .i64 (c.High - c.Init) = c.High - c.Init := wr_id (by unfold IsN at *; omega)
    rw [if_neg (by simp [h1, h2, h3]; omega), w1, w2]
    refine sd ?_
    simp only [Bool.and_eq_true, decide_eq_true_eq, Bool.if_false_right]
    unfold COk
    constructor
    · rintro ⟨⟨⟨a, b⟩, _, d⟩, e⟩
      simp_all
    · rintro ⟨_, _, _, _, _, a, b, d, e⟩
      simp_all
  · have hn : ¬ COk c := fun k => h ⟨k.1, k.2.1, k.2.2.1, k.2.2.2.1, k.2.2.2.2.1⟩
    rw [if_pos, decide_eq_false hn]
    by_cases h1 : IsN c.Init <;> by_cases h2 : IsN c.Low <;> by_cases h3 : IsN c.High <;> by_cases h4 : c.Init < c.Low <;> by_cases h5 : c.High < c.Init <;> simp [h1, h2, h3, h4, h5]
    exact h ⟨h1, h2, h3, by omega, by omega⟩
theorem lock_Right_eq (l : TLock) : lock_Right l = some (decide (LOk l)) := by
  have h1 : ∀ n, lock_Right_1 n = some (decide (cnt n)) := fun n => by
    unfold lock_Right_1
    simp only [num_Is_eq, Option.bind, gd_nb, letM_eq]
    refine sd ?_
    simp only [Bool.and_eq_true, decide_eq_true_eq, Bool.if_false_right]
    unfold cnt
    constructor
    · rintro ⟨a, _, b⟩; exact ⟨a, b⟩
    · rintro ⟨a, b⟩; exact ⟨a, a, b⟩
  have h2 : ∀ k, lock_is k = some (decide (0 ≤ k ∧ k < 16)) := fun k => sd (by simp)
  unfold lock_Right
  simp only [h1, h2, num_Is_eq, Option.bind, gd_nb, letM_eq]
  refine sd ?_
  simp only [Bool.and_eq_true, decide_eq_true_eq, Bool.if_false_right]
  unfold LOk
  constructor
  · rintro ⟨⟨⟨a, _, b⟩, _, d⟩, e⟩
    have e2 := e.2
    exact ⟨a, b, d.1, by omega, e2⟩
  · rintro ⟨a, b, d, e, f⟩
    have e2 : l.Holder < 16 := by omega
    simp [a, b, d, e2, f]
theorem field_Right_eq (f : TField) (hs : f.Name.size ≤ 1000000000000000) (hh : f.Holds.length ≤ 1000000000000) : field_Right f = some (decide (FOk f)) := by
  unfold field_Right
  simp only [field_Name_eq _ hs, num_Is_eq, Option.bind, gd_nb, letM_eq, counter_Right_eq, hold_Rights_eq f.Holds (by omega), lock_Right_eq]
  by_cases h : NameOk f.Name ∧ cnt f.Epoch
  · obtain ⟨h1, h2⟩ := h
    have h3 : ¬ f.Epoch < 0 := by unfold cnt at h2; omega
    rw [if_neg (by simp [h1, h2.2, h3])]
    by_cases hk : f.Kind = 1
    · rw [if_pos (by simp [hk])]
      refine sd ?_
      simp only [Bool.and_eq_true, decide_eq_true_eq, Bool.if_false_right]
      unfold FOk
      constructor
      · rintro ⟨⟨a, b, c⟩, d⟩
        exact ⟨h1, h2, .inl ⟨hk, a, c, d⟩⟩
      · rintro ⟨_, _, ⟨_, a, b, c⟩ | ⟨a, _⟩⟩
        · exact ⟨⟨a, a, b⟩, c⟩
        · omega
    · rw [if_neg (by simp [hk])]
      have hz : ((f.Holds.length : Int) = 0) ↔ f.Holds = [] := by
        rw [← List.length_eq_zero_iff]; omega
      by_cases hk2 : f.Kind = 2
      · rw [if_pos (by simp [hk2])]
        refine sd ?_
        simp only [Bool.and_eq_true, decide_eq_true_eq, Bool.if_false_right]
        unfold FOk
        rw [hz]
        constructor
        · rintro ⟨⟨a, b⟩, d⟩
          exact ⟨h1, h2, .inr ⟨hk2, a, b, d⟩⟩
        · rintro ⟨_, _, ⟨a, _⟩ | ⟨a, b, c, d⟩⟩
          · omega
          · exact ⟨⟨b, c⟩, d⟩
      · rw [if_neg (by simp [hk2]), decide_eq_false]
        rintro ⟨_, _, ⟨a, _⟩ | ⟨a, _⟩⟩ <;> contradiction
  · have hn : ¬ FOk f := fun k => h ⟨k.1, k.2.1⟩
    rw [if_pos, decide_eq_false hn]
    by_cases h1 : NameOk f.Name <;> by_cases h2 : f.Epoch < 0 <;> by_cases h3 : IsN f.Epoch <;> simp [h1, h2, h3]
    exact h ⟨h1, by unfold cnt; exact ⟨by omega, h3⟩⟩

def viewS (f : TField) : Int × Int := if f.Kind = 1 then sumS (valL f.Counter) else if f.Kind = 2 then (f.Lock.Value, 0) else (0, 17)
theorem field_View_eq (f : TField) : field_View f = some (viewS f) := by
  unfold field_View viewS
  simp only [counter_Value_eq, Option.bind]
  by_cases h : f.Kind = 1
  · rw [if_pos (by simp [h]), if_pos h]
  · rw [if_neg (by simp [h]), if_neg h]
    by_cases h2 : f.Kind = 2
    · rw [if_pos (by simp [h2]), if_pos h2]
    · rw [if_neg (by simp [h2]), if_neg h2]
theorem ref07_View_eq (f : TField) : usufructref07_View f = some (viewS f) := by
  unfold usufructref07_View viewS
  simp only [ref04_Value_eq, Option.bind]
  by_cases h : f.Kind = 1
  · rw [if_pos (by simp [h]), if_pos h]
  · rw [if_neg (by simp [h]), if_neg h]
    by_cases h2 : f.Kind = 2
    · rw [if_pos (by simp [h2]), if_pos h2]
    · rw [if_neg (by simp [h2]), if_neg h2]

theorem Few7_eq (ls : List TField) (hl : ls.length ≤ 1000000000000000) : usufructlaw07_Few ls = some (decide (∀ f ∈ ls, f.Name.size ≤ 100 ∧ f.Holds.length ≤ 40)) := by
  unfold usufructlaw07_Few
  rw [loop_all ls.length hl (fun i => (ls.getD i default).Name.size ≤ 100 ∧ (ls.getD i default).Holds.length ≤ 40) false () (fun i hi => ?_) (by simp [-List.getD_eq_getElem?_getD, usufructlaw07_Few_L1])]
  · by_cases h : ∀ f ∈ ls, f.Name.size ≤ 100 ∧ f.Holds.length ≤ 40
    · rw [if_pos (fun i hi => h _ (by simp [List.getD, hi]))]
      rw [decide_eq_true h]; rfl
    · rw [if_neg (fun h2 => h fun f hx => by obtain ⟨i, hi, rfl⟩ := List.getElem_of_mem hx; simpa [List.getD, hi] using h2 i hi)]
      rw [decide_eq_false h]; rfl
  · simp only [usufructlaw07_Few_L1, six_of hi, letM_eq, Option.bind]
    rw [if_pos (by simp; omega)]
    simp only [wr_succ (show i < 1000000000000000 by omega)]
    by_cases h : (ls.getD i default).Name.size ≤ 100 ∧ (ls.getD i default).Holds.length ≤ 40
    · rw [if_neg (by simp only [Bool.or_eq_true, decide_eq_true_eq]; omega), if_pos h]
    · rw [if_pos (by simp only [Bool.or_eq_true, decide_eq_true_eq]; omega), if_neg h]
end Go.Av
namespace Go.Av
set_option linter.unusedSectionVars false
set_option linter.unusedVariables false
set_option linter.unusedSimpArgs false

def LLt (a b : TLock) : Prop := a.Seq < b.Seq ∨ (a.Seq = b.Seq ∧ (a.Ver < b.Ver ∨ (a.Ver = b.Ver ∧ (a.Holder < b.Holder ∨ (a.Holder = b.Holder ∧ a.Value < b.Value)))))
instance (a b : TLock) : Decidable (LLt a b) := by unfold LLt; infer_instance
end Go.Av
namespace Go.Av
set_option linter.unusedSectionVars false
set_option linter.unusedVariables false
set_option linter.unusedSimpArgs false

def SaysP (v : Int) (f : TField) : Prop := FOk f ∧ (1 ≤ v ∧ v ≤ 3) ∧ (v = 3 ∨ f.Epoch = 0) ∧ (1 < v ∨ f.Holds = [])
instance (v : Int) (f : TField) : Decidable (SaysP v f) := by unfold SaysP; infer_instance
end Go.Av
namespace Go.Av
set_option linter.unusedSectionVars false
set_option linter.unusedVariables false
set_option linter.unusedSimpArgs false

theorem links_gen {α : Type} [Inhabited α] {P : α → Prop} {R : α → α → Prop} (tr : ∀ {a b c : α}, R a b → R b c → R a c) (l : List α) :
    (∀ i, i < l.length → P (l.getD i default) ∧ (0 < i → R (l.getD (i - 1) default) (l.getD i default))) ↔ (∀ h ∈ l, P h) ∧ l.Pairwise R := by
  constructor
  · intro h
    refine ⟨fun x hx => ?_, ?_⟩
    · obtain ⟨i, hi, rfl⟩ := List.getElem_of_mem hx
      simpa [List.getD, hi] using (h i hi).1
    · rw [List.pairwise_iff_getElem]
      intro i j hi hj hij
      induction j with
      | zero => omega
      | succ j ih =>
        have h1 := (h (j + 1) hj).2 (by omega)
        have e1 : l.getD (j + 1 - 1) default = l[j] := by simp [List.getD, show j < l.length by omega]
        have e2 : l.getD (j + 1) default = l[j + 1] := by simp [List.getD, hj]
        rw [e1, e2] at h1
        rcases Nat.lt_succ_iff_lt_or_eq.1 hij with h2 | rfl
        · exact tr (ih (by omega) h2) h1
        · exact h1
  · rintro ⟨h1, h2⟩ i hi
    rw [List.pairwise_iff_getElem] at h2
    refine ⟨by rw [show l.getD i default = l[i] by simp [List.getD, hi]]; exact h1 _ (List.getElem_mem hi), fun h0 => ?_⟩
    rw [show l.getD i default = l[i] by simp [List.getD, hi], show l.getD (i - 1) default = l[i - 1] by simp [List.getD, show i - 1 < l.length by omega]]
    exact h2 _ _ (by omega) hi (by omega)
def RN (a b : TField) : Prop := bLs a.Name b.Name = true
instance (a b : TField) : Decidable (RN a b) := by unfold RN; infer_instance
theorem RN.trans {a b c : TField} (h : RN a b) (k : RN b c) : RN a c := bLs_trans h k
def FsOk (l : List TField) : Prop := (∀ f ∈ l, FOk f) ∧ l.Pairwise RN ∧ l.length ≤ 4
instance (l : List TField) : Decidable (FsOk l) := by unfold FsOk; infer_instance
/-- Fields that may be gone through. -/
def Small (l : List TField) : Prop := l.length ≤ 1000 ∧ ∀ f ∈ l, f.Name.size ≤ 1000000 ∧ f.Holds.length ≤ 100000
theorem Small.at {l : List TField} (h : Small l) (i : Nat) : (l.getD i default).Name.size ≤ 1000000 ∧ (l.getD i default).Holds.length ≤ 100000 := by
  by_cases hi : i < l.length
  · rw [show l.getD i default = l[i] by simp [List.getD, hi]]; exact h.2 _ (List.getElem_mem hi)
  · rw [show l.getD i default = default by simp [List.getD, Nat.le_of_not_lt hi]]; decide
def LinkF (l : List TField) (i : Nat) : Prop := FOk (l.getD i default) ∧ (0 < i → RN (l.getD (i - 1) default) (l.getD i default))
instance (l : List TField) : DecidablePred (LinkF l) := fun i => by unfold LinkF; infer_instance
theorem linksF_iff (l : List TField) : (∀ i, i < l.length → LinkF l i) ↔ (∀ f ∈ l, FOk f) ∧ l.Pairwise RN := links_gen (P := FOk) (R := RN) RN.trans l
theorem plan_Fields_eq (l : List TField) (hl : Small l) : plan_Fields l = some (decide (FsOk l)) := by
  have hn := hl.1
  unfold plan_Fields
  rw [loop_all l.length (by omega) (LinkF l) false () (fun i hi => ?_) (by simp [-List.getD_eq_getElem?_getD, plan_Fields_L1])]
  · by_cases h : ∀ i, i < l.length → LinkF l i
    · rw [if_pos h]
      have := (linksF_iff l).1 h
      refine sd ?_
      simp only [FsOk, this.2, true_and, decide_eq_true_eq]
      exact ⟨fun h => ⟨this.1, by omega⟩, fun h => by omega⟩
    · rw [if_neg h, decide_eq_false (fun h2 : FsOk l => h ((linksF_iff l).2 ⟨h2.1, h2.2.1⟩))]; rfl
  · have hs := hl.at i
    simp only [plan_Fields_L1, six_of hi, letM_eq, Option.bind, field_Right_eq _ (show (l.getD i default).Name.size ≤ 1000000000000000 by omega) (show (l.getD i default).Holds.length ≤ 1000000000000 by omega)]
    rw [if_pos (by simp; omega)]
    simp only [wr_succ (show i < 1000000000000000 by omega)]
    by_cases h1 : FOk (l.getD i default)
    · by_cases h0 : 0 < i
      · rw [gd_t (by rw [decide_eq_true h1]; simp; omega), wr_pred h0 (by omega), six_of (by omega)]
        simp only []
        by_cases h2 : RN (l.getD (i - 1) default) (l.getD i default)
        · have h2' : bLs (l.getD (i - 1) default).Name (l.getD i default).Name = true := h2
          rw [if_neg (by rw [decide_eq_true h1, h2']; simp), if_pos ⟨h1, fun _ => h2⟩]
        · have h2' : bLs (l.getD (i - 1) default).Name (l.getD i default).Name = false := by simpa [RN, -List.getD_eq_getElem?_getD] using h2
          rw [if_pos (by rw [decide_eq_true h1, h2', decide_eq_true (show (0 : Int) < (i : Int) by omega)]; rfl), if_neg (fun k => h2 (k.2 h0))]
      · obtain rfl : i = 0 := by omega
        rw [gd_f (by simp)]
        simp only []
        rw [if_neg (by rw [decide_eq_true h1]; simp), if_pos ⟨h1, fun k => by omega⟩]
    · rw [gd_f (by rw [decide_eq_false h1]; simp)]
      simp only []
      rw [if_pos (by rw [decide_eq_false h1]; rfl), if_neg (fun k => h1 k.1)]

/-- No other name. -/
def noS : ByteArray := ⟨#[]⟩
def kindOk (p : TPlan) : Prop :=
  (p.Kind = 1 ∨ p.Kind = 2) ∧ p.Other = noS ∧ 0 ≤ p.A ∧ 0 ≤ p.B ∧ 0 < p.A + p.B ∨ p.Kind = 3 ∧ p.Other = noS ∧ p.A = 0 ∧ p.B = 0 ∨ p.Kind = 4 ∧ p.Other = noS ∧ p.A ≤ p.B ∨
  p.Kind = 5 ∧ NameOk p.Other ∧ p.Other ≠ p.Name ∧ 1 ≤ p.A ∧ p.B = 0 ∨ p.Kind = 6 ∧ NameOk p.Other ∧ p.Other ≠ p.Name ∧ p.A = 0 ∧ p.B = 0
instance (p : TPlan) : Decidable (kindOk p) := by unfold kindOk; infer_instance
def PlOk (p : TPlan) : Prop := NameOk p.Name ∧ IsN p.A ∧ IsN p.B ∧ kindOk p
instance (p : TPlan) : Decidable (PlOk p) := by unfold PlOk; infer_instance
theorem obs {α β : Type} (x : α) (f : α → Option β) : Option.bind (some x) f = f x := rfl
theorem right_chain {a b c r : Prop} [Decidable a] [Decidable b] [Decidable c] [Decidable r] :
    (Option.bind (some (decide a)) fun r4 => Option.bind (gd (r4 = true) (some (decide b))) fun r5 => Option.bind (gd ((r4 && r5) = true) (some (decide c))) fun r6 =>
      Option.bind (gd (((r4 && r5) && r6) = true) (some (decide r))) fun r7 => letM (((r4 && r5) && r6) && r7) fun v8 => some v8) = some (decide (a ∧ b ∧ c ∧ r)) := by
  by_cases ha : a <;> by_cases hb : b <;> by_cases hc : c <;> by_cases hr : r <;> simp [ha, hb, hc, hr, gd, letM] <;> rfl
theorem rule1_eq (p : TPlan) : plan_rules_1 p = some (decide (p.Other = noS)) := rfl
theorem rule3_eq (p : TPlan) : plan_rules_3_rules_1 p = some (decide (p.Other = noS ∧ 0 ≤ p.A ∧ 0 ≤ p.B ∧ 0 < wr .i64 (p.A + p.B))) := by
  unfold plan_rules_3_rules_1
  rw [rule1_eq, obs]
  refine sd ?_
  simp [and_assoc]
theorem rule4_eq (p : TPlan) : plan_rules_4_rules_1 p = some (decide (p.Other = noS ∧ p.A = 0 ∧ p.B = 0)) := by
  unfold plan_rules_4_rules_1
  rw [rule1_eq, obs]
  refine sd ?_
  simp [and_assoc]
theorem rule5_eq (p : TPlan) : plan_rules_5_rules_1 p = some (decide (p.Other = noS ∧ p.A ≤ p.B)) := by
  unfold plan_rules_5_rules_1
  rw [rule1_eq, obs]
  refine sd ?_
  simp [and_assoc]
theorem rule2_eq (p : TPlan) (h : p.Other.size ≤ 1000000) : plan_rules_2 p = some (decide (NameOk p.Other ∧ p.Other ≠ p.Name)) := by
  unfold plan_rules_2
  rw [field_Name_eq _ (by omega), obs]
  refine sd ?_
  simp [and_assoc]
theorem rule6_eq (p : TPlan) (h : p.Other.size ≤ 1000000) : plan_rules_6_rules_2 p = some (decide (NameOk p.Other ∧ p.Other ≠ p.Name ∧ 1 ≤ p.A ∧ p.B = 0)) := by
  unfold plan_rules_6_rules_2
  rw [rule2_eq p h, obs]
  refine sd ?_
  simp [and_assoc]
theorem rule7_eq (p : TPlan) (h : p.Other.size ≤ 1000000) : plan_rules_7_rules_2 p = some (decide (NameOk p.Other ∧ p.Other ≠ p.Name ∧ p.A = 0 ∧ p.B = 0)) := by
  unfold plan_rules_7_rules_2
  rw [rule2_eq p h, obs]
  refine sd ?_
  simp [and_assoc]
theorem sdd {P Q : Prop} [Decidable P] [Decidable Q] (h : P ↔ Q) : some (decide P) = some (decide Q) := by rw [decide_eq_decide.2 h]
theorem plan_Right_eq (p : TPlan) (hk : inI64 p.Kind = true) (h1 : p.Name.size ≤ 1000000) (h2 : p.Other.size ≤ 1000000) : plan_Right p = some (decide (PlOk p)) := by
  have hi : i64M p.Kind = some () := by unfold i64M; rw [if_pos hk]
  unfold plan_Right
  rw [show plan_rules = some () from rfl, hi, obs, obs, field_Name_eq p.Name (by omega), num_Is_eq, num_Is_eq, rule3_eq, rule4_eq, rule5_eq, rule6_eq p h2, rule7_eq p h2]
  simp only [right_chain]
  have w : IsN p.A → IsN p.B → wr .i64 (p.A + p.B) = p.A + p.B := fun hA hB => wr_id (by unfold IsN at hA hB; omega)
  have h12 : p.Kind = 1 ∨ p.Kind = 2 → (NameOk p.Name ∧ IsN p.A ∧ IsN p.B ∧ p.Other = noS ∧ 0 ≤ p.A ∧ 0 ≤ p.B ∧ 0 < wr .i64 (p.A + p.B) ↔ PlOk p) := fun k => by
    unfold PlOk kindOk
    constructor
    · rintro ⟨a, b, c, d, e, f, g⟩
      rw [w b c] at g
      exact ⟨a, b, c, .inl ⟨k, d, e, f, g⟩⟩
    · rintro ⟨a, b, c, d⟩
      rw [w b c]
      rcases d with d | d | d | d | d
      · exact ⟨a, b, c, d.2⟩
      all_goals omega
  by_cases c1 : p.Kind = 1
  · rw [if_pos (by simp [c1])]; exact sdd (h12 (.inl c1))
  rw [if_neg (by simp [c1])]
  by_cases c2 : p.Kind = 2
  · rw [if_pos (by simp [c2])]; exact sdd (h12 (.inr c2))
  rw [if_neg (by simp [c2])]
  by_cases c3 : p.Kind = 3
  · rw [if_pos (by simp [c3])]; refine sdd ?_; unfold PlOk kindOk; simp [c3]
  rw [if_neg (by simp [c3])]
  by_cases c4 : p.Kind = 4
  · rw [if_pos (by simp [c4])]; refine sdd ?_; unfold PlOk kindOk; simp [c4]
  rw [if_neg (by simp [c4])]
  by_cases c5 : p.Kind = 5
  · rw [if_pos (by simp [c5])]; refine sdd ?_; unfold PlOk kindOk; simp [c5]
  rw [if_neg (by simp [c5])]
  by_cases c6 : p.Kind = 6
  · rw [if_pos (by simp [c6])]; refine sdd ?_; unfold PlOk kindOk; simp [c6]
  rw [if_neg (by simp [c6]), decide_eq_false]
  unfold PlOk kindOk
  simp [c1, c2, c3, c4, c5, c6]
end Go.Av
namespace Go.Av
set_option linter.unusedSectionVars false
set_option linter.unusedVariables false
set_option linter.unusedSimpArgs false

def fidx (l : List TField) (n : ByteArray) : Option Nat := l.findIdx? fun f => decide (f.Name = n)
def fnd (l : List TField) (n : ByteArray) : Option TField := l.find? fun f => decide (f.Name = n)
theorem find_idx {α : Type} [Inhabited α] (l : List α) (p : α → Bool) : l.find? p = (l.findIdx? p).map fun i => l.getD i default := by
  induction l with
  | nil => rfl
  | cons x l ih =>
    rw [List.find?_cons, List.findIdx?_cons]
    cases h : p x with
    | true => simp
    | false => rw [ih]; simp only [Bool.false_eq_true, if_false, Option.map_map]; rfl
theorem fnd_idx (l : List TField) (n : ByteArray) : fnd l n = (fidx l n).map fun i => l.getD i default := find_idx l _
theorem fidx_lt {l : List TField} {n : ByteArray} {i : Nat} (h : fidx l n = some i) : i < l.length := (List.findIdx?_eq_some_iff_getElem.1 h).1
theorem index_Field_eq (l : List TField) (n : ByteArray) (hl : l.length ≤ 1000000) : slices_IndexFunc_Field_Find_1 l n = some (match fidx l n with | some i => (i : Int) | none => -1) := by
  unfold slices_IndexFunc_Field_Find_1 fidx
  rw [loop_first l (by omega) (fun f => decide (f.Name = n)) (fun i => (i : Int)) () (fun i hi => ?_) (by simp [slices_IndexFunc_Field_Find_1_L1])]
  · cases l.findIdx? (fun f => decide (f.Name = n)) <;> rfl
  · simp only [slices_IndexFunc_Field_Find_1_L1, plan_Find_1, six_of hi, letM_eq, Option.bind]
    rw [if_pos (by simp; omega)]
    simp only [wr_succ (show i < 1000000000000000 by omega)]
    by_cases h : (l.getD i default).Name = n
    · rw [if_pos (by rw [h]; simp), if_pos (by rw [h]; simp)]
    · rw [if_neg (by rw [decide_eq_false h]; simp), if_neg (by rw [decide_eq_false h]; simp)]
theorem plan_Find_eq (l : List TField) (n : ByteArray) (hl : l.length ≤ 1000000) : plan_Find l n = some (match fidx l n with | some i => ((i : Int), true) | none => (0, false)) := by
  unfold plan_Find
  rw [index_Field_eq l n hl, obs]
  cases fidx l n with
  | none => rfl
  | some i => simp
theorem loop_first2 {α β ξ ρ : Type} [Inhabited α] {body : β × Int → Option ((β × Int) ⊕ (ξ ⊕ ρ))} (b : β) (l : List α) (hl : l.length ≤ 1000000000000000) (p : α → Bool) (q : Nat → ρ) (x : ξ)
    (hb : ∀ i, i < l.length → body (b, (i : Int)) = some (if p (l.getD i default) = true then .inr (.inr (q i)) else .inl (b, ((i + 1 : Nat) : Int)))) (hf : body (b, (l.length : Int)) = some (.inr (.inl x))) :
    loopM body fuel (b, 0) = some (match l.findIdx? p with | some i => .inr (q i) | none => .inl x) := by
  refine loopM_eq (fun i s => s = (b, (i : Int)) ∧ ∀ j, j < i → p (l.getD j default) = false) l.length hl _ ?_ ?_ ⟨rfl, fun j h => by omega⟩
  · rintro i s hi ⟨rfl, hI⟩
    rw [hb i hi]
    by_cases h : p (l.getD i default) = true
    · refine .inr ?_
      rw [if_pos h]
      have : l.findIdx? p = some i := by
        rw [List.findIdx?_eq_some_iff_getElem]
        refine ⟨hi, by simpa [List.getD, hi] using h, fun j hj => ?_⟩
        have := hI j hj
        simp [List.getD, show j < l.length by omega] at this
        simp [this]
      rw [this]
    · refine .inl ⟨_, by rw [if_neg h], rfl, fun j hj => ?_⟩
      rcases Nat.lt_succ_iff_lt_or_eq.1 hj with h2 | rfl
      · exact hI j h2
      · simpa using h
  · rintro s ⟨rfl, hI⟩
    rw [hf]
    have : l.findIdx? p = none := by
      rw [List.findIdx?_eq_none_iff]
      intro y hy
      obtain ⟨i, hi, rfl⟩ := List.getElem_of_mem hy
      simpa [List.getD, hi] using hI i hi
    rw [this]
theorem idx_any {α : Type} (l : List α) (p : α → Bool) : decide ((0 : Int) ≤ (match l.findIdx? p with | some i => (i : Int) | none => -1)) = l.any p := by
  have h : (l.findIdx? p).isSome = l.any p := by simp
  rw [← h]
  cases l.findIdx? p with
  | none => rfl
  | some i => simp
def offK (k : Int) (f : TField) : Bool := !decide (f.Kind = k)
theorem cont_kind_eq (l : List TField) (b : Int) (hl : l.length ≤ 1000000) : slices_ContainsFunc_Field_Fits_1 l b = some (l.any (offK b), b) := by
  unfold slices_ContainsFunc_Field_Fits_1 slices_IndexFunc_Field_Fits_1
  rw [loop_first2 b l (by omega) (offK b) (fun i => ((i : Int), b)) b (fun i hi => ?_) (by simp [slices_IndexFunc_Field_Fits_1_L1])]
  · rw [← idx_any l (offK b)]
    cases l.findIdx? (offK b) <;> rfl
  · simp only [slices_IndexFunc_Field_Fits_1_L1, plan_Fits_1, six_of hi, letM_eq, Option.bind]
    rw [if_pos (by simp; omega)]
    simp only [wr_succ (show i < 1000000000000000 by omega)]
    by_cases h : offK b (l.getD i default) = true
    · rw [if_pos (by simpa only [offK] using h), if_pos h]
    · rw [if_neg (by simpa only [offK] using h), if_neg h]
def isH (h : THold) : Bool := decide (h.State = 1)
def heldF (f : TField) : Bool := f.Holds.any isH
theorem cont_hold_eq (l : List THold) (hl : l.length ≤ 1000000) : slices_ContainsFunc_Hold_Fits_2 l = some (l.any isH) := by
  unfold slices_ContainsFunc_Hold_Fits_2 slices_IndexFunc_Hold_Fits_2
  rw [loop_first l (by omega) isH (fun i => (i : Int)) () (fun i hi => ?_) (by simp [slices_IndexFunc_Hold_Fits_2_L1])]
  · rw [← idx_any l isH]
    cases l.findIdx? isH <;> rfl
  · simp only [slices_IndexFunc_Hold_Fits_2_L1, plan_Fits_2, six_of hi, letM_eq, Option.bind]
    rw [if_pos (by simp; omega)]
    simp only [wr_succ (show i < 1000000000000000 by omega)]
    by_cases h : isH (l.getD i default) = true
    · rw [if_pos (by simpa only [isH] using h), if_pos h]
    · rw [if_neg (by simpa only [isH] using h), if_neg h]
theorem cont_held_eq (l : List TField) (hl : Small l) : slices_ContainsFunc_Field_Fits_3_Fits_2 l = some (l.any heldF) := by
  have hn := hl.1
  unfold slices_ContainsFunc_Field_Fits_3_Fits_2 slices_IndexFunc_Field_Fits_3_Fits_2
  rw [loop_first l (by omega) heldF (fun i => (i : Int)) () (fun i hi => ?_) (by simp [slices_IndexFunc_Field_Fits_3_Fits_2_L1])]
  · rw [← idx_any l heldF]
    cases l.findIdx? heldF <;> rfl
  · have hs := hl.at i
    simp only [slices_IndexFunc_Field_Fits_3_Fits_2_L1, plan_Fits_3_Fits_2, cont_hold_eq _ (show (l.getD i default).Holds.length ≤ 1000000 by omega), six_of hi, letM_eq, Option.bind]
    rw [if_pos (by simp; omega)]
    simp only [wr_succ (show i < 1000000000000000 by omega)]
    by_cases h : heldF (l.getD i default) = true
    · rw [if_pos (by simpa only [heldF] using h), if_pos h]
    · rw [if_neg (by simpa only [heldF] using h), if_neg h]
/-- What a plan is about. -/
def tch (l : List TField) (p : TPlan) : Option (List TField) :=
  match fnd l p.Name with
  | none => none
  | some f => if p.Kind = 6 then (match fnd l p.Other with | none => none | some g => some [f, g]) else some [f]
theorem fits_step (l : List TField) (hl : l.length ≤ 1000000) (ns : List ByteArray) (i : Nat) (hi : i < ns.length) (h2 : ns.length ≤ 1000) (acc : List TField) (ha : acc.length ≤ 1000) :
    plan_Fits_L1 l ns ((i : Int), acc) = match fnd l (ns.getD i default) with | none => some (.inr (.inr 10)) | some f => some (.inl (((i + 1 : Nat) : Int), acc ++ [f])) := by
  simp only [plan_Fits_L1, six_of hi, obs, plan_Find_eq l _ hl, fnd_idx]
  rw [if_pos (by simp; omega)]
  cases h : fidx l (ns.getD i default) with
  | none => simp
  | some k =>
    simp only [Option.map_some]
    rw [if_neg (by simp), six_of (fidx_lt h), obs, letM_eq, app_of (by simp; omega), obs]
    simp only [wr_succ (show i < 1000000000000000 by omega)]
theorem fits_end (l : List TField) (ns : List ByteArray) (acc : List TField) : plan_Fits_L1 l ns ((ns.length : Int), acc) = some (.inr (.inl acc)) := by
  simp [plan_Fits_L1]
theorem loop_go {σ ρ : Type} {body : σ → Option (σ ⊕ ρ)} {n : Nat} {s t : σ} (h : body s = some (.inl t)) : loopM body (n + 1) s = loopM body n t := by simp only [loopM, h]
theorem loop_out {σ ρ : Type} {body : σ → Option (σ ⊕ ρ)} {n : Nat} {s : σ} {r : ρ} (h : body s = some (.inr r)) : loopM body (n + 1) s = some r := by simp only [loopM, h]
theorem fuel3 : ∃ n, fuel = n + 1 + 1 + 1 := ⟨1180591620717411303421, rfl⟩
theorem fits_loop (l : List TField) (hl : l.length ≤ 1000000) (p : TPlan) : loopM (plan_Fits_L1 l (if (decide (p.Kind = 6)) = true then [p.Name, p.Other] else [p.Name])) fuel (0, ([] : List TField)) = some (match tch l p with | some t => .inl t | none => .inr 10) := by
  obtain ⟨n, hf⟩ := fuel3
  rw [hf]
  unfold tch
  by_cases h6 : p.Kind = 6
  · rw [if_pos (by simp [h6])]
    simp only [if_pos h6]
    have s0 := fits_step l hl [p.Name, p.Other] 0 (by simp) (by simp) [] (by simp)
    simp only [List.getD_cons_zero] at s0
    cases h : fnd l p.Name with
    | none => rw [h] at s0; exact loop_out s0
    | some f =>
      rw [h] at s0
      have s1 := fits_step l hl [p.Name, p.Other] 1 (by simp) (by simp) [f] (by simp)
      simp only [List.getD_cons_succ, List.getD_cons_zero] at s1
      refine (loop_go s0).trans ?_
      cases h2 : fnd l p.Other with
      | none => rw [h2] at s1; exact loop_out s1
      | some g =>
        rw [h2] at s1
        exact (loop_go s1).trans (loop_out (fits_end l [p.Name, p.Other] [f, g]))
  · rw [if_neg (by simp [h6])]
    simp only [if_neg h6]
    have s0 := fits_step l hl [p.Name] 0 (by simp) (by simp) [] (by simp)
    simp only [List.getD_cons_zero] at s0
    cases h : fnd l p.Name with
    | none => rw [h] at s0; exact loop_out s0
    | some f =>
      rw [h] at s0
      exact (loop_go s0).trans (loop_out (fits_end l [p.Name] [f]))
def chkS (t : List TField) (k : Int) : Int := if t.any (offK k) = true then 17 else if t.any heldF = true then 12 else 0
def fitsS (l : List TField) (p : TPlan) : Int :=
  if FsOk l then (if PlOk p then (match tch l p with
    | none => 10
    | some t => if p.Kind = 5 then (if (fidx l p.Other).isSome = true then 11 else if l.length = 4 then 7 else chkS t 1) else if p.Kind = 4 then chkS t 2 else chkS t 1) else 14) else 1
theorem fnd_mem {l : List TField} {n : ByteArray} {f : TField} (h : fnd l n = some f) : f ∈ l := List.mem_of_find?_eq_some h
theorem tch_small {l : List TField} {p : TPlan} {t : List TField} (hl : Small l) (h : tch l p = some t) : Small t := by
  unfold tch at h
  cases h1 : fnd l p.Name with
  | none => rw [h1] at h; simp at h
  | some f =>
    rw [h1] at h
    have k1 := hl.2 f (fnd_mem h1)
    by_cases h6 : p.Kind = 6
    · simp only [if_pos h6] at h
      cases h2 : fnd l p.Other with
      | none => rw [h2] at h; simp at h
      | some g =>
        rw [h2] at h
        have k2 := hl.2 g (fnd_mem h2)
        simp only [Option.some.injEq] at h
        subst h
        exact ⟨by simp, by simpa using ⟨k1, k2⟩⟩
    · simp only [if_neg h6, Option.some.injEq] at h
      subst h
      exact ⟨by simp, by simpa using k1⟩
theorem plan_Fits_eq (l : List TField) (p : TPlan) (hl : Small l) (hk : inI64 p.Kind = true) (h1 : p.Name.size ≤ 1000000) (h2 : p.Other.size ≤ 1000000) : plan_Fits l p = some (fitsS l p) := by
  have hn := hl.1
  unfold plan_Fits fitsS
  rw [plan_Fields_eq l hl, obs]
  by_cases c1 : FsOk l
  rotate_left
  · rw [if_neg c1, if_pos (by simp [c1])]
  rw [if_pos c1, if_neg (by simp [c1]), plan_Right_eq p hk h1 h2, obs]
  by_cases c2 : PlOk p
  rotate_left
  · rw [if_neg c2, if_pos (by simp [c2])]
  rw [if_pos c2, if_neg (by simp [c2])]
  have hnm : plan_names p = some (if (decide (p.Kind = 6)) = true then [p.Name, p.Other] else [p.Name]) := by unfold plan_names; split <;> rfl
  rw [hnm, obs, fits_loop l (by omega) p, obs]
  cases ht : tch l p with
  | none => rfl
  | some t =>
    have hts := tch_small hl ht
    have ht1 := hts.1
    simp only [onS, plan_Find_eq l _ (show l.length ≤ 1000000 by omega), obs, letM_eq, cont_kind_eq t _ (show t.length ≤ 1000000 by omega), cont_held_eq t hts]
    have hi : (match fidx l p.Other with | some i => ((i : Int), true) | none => (0, false)).2 = (fidx l p.Other).isSome := by cases fidx l p.Other <;> rfl
    have h4 : decide ((l.length : Int) = 4) = decide (l.length = 4) := decide_eq_decide.2 (by omega)
    rw [hi, h4]
    have e : ∀ k : Int, (if t.any (offK k) = true then some 17 else if t.any heldF = true then some 12 else some 0) = some (chkS t k) := fun k => by
      unfold chkS
      by_cases c : t.any (offK k) = true
      · rw [if_pos c, if_pos c]
      · rw [if_neg c, if_neg c]
        by_cases d : t.any heldF = true
        · rw [if_pos d, if_pos d]
        · rw [if_neg d, if_neg d]
    rw [e 1, e 2]
    by_cases k5 : p.Kind = 5
    · rw [if_pos (by simp [k5]), if_pos k5]
      cases (fidx l p.Other).isSome with
      | true => rfl
      | false =>
        have n4 : ¬ (decide (p.Kind = 4) = true) := by simp [k5]
        have nf : ¬ (false = true) := by simp
        rw [if_neg nf, if_neg nf, if_neg n4]
        by_cases k7 : l.length = 4
        · rw [if_pos (by simp [k7]), if_pos k7]
        · rw [if_neg (by simp [k7]), if_neg k7]
    · rw [if_neg (by simp [k5]), if_neg k5]
      by_cases k4 : p.Kind = 4
      · rw [if_pos (by simp [k4]), if_pos k4]
      · rw [if_neg (by simp [k4]), if_neg k4]
end Go.Av
namespace Go.Av
set_option linter.unusedSectionVars false
set_option linter.unusedVariables false
set_option linter.unusedSimpArgs false

def madeOk (e v lo hi : Int) : Prop := IsN e ∧ IsN v ∧ IsN lo ∧ IsN hi ∧ IsN (hi - lo)
instance (e v lo hi : Int) : Decidable (madeOk e v lo hi) := by unfold madeOk; infer_instance
def tchB (p : TPlan) (n : ByteArray) : Bool := decide (n = p.Name) || (!decide (p.Other = noS) && decide (n = p.Other))
theorem plan_Touched_eq (p : TPlan) (n : ByteArray) : plan_Touched p n = some (tchB p n) := rfl
/-- What a plan is not about. -/
def rest (l : List TField) (p : TPlan) : List TField := l.filter fun f => !tchB p f.Name
end Go.Av
namespace Go.Av
set_option linter.unusedSectionVars false
set_option linter.unusedVariables false
set_option linter.unusedSimpArgs false

theorem awake13_eq : usufructlaw13_awake = some true := by decide +kernel
def Few13 (l : List TField) (p : TPlan) : Prop := l.length ≤ 8 ∧ (∀ f ∈ l, f.Name.size ≤ 100 ∧ f.Holds.length ≤ 40) ∧ p.Name.size ≤ 100 ∧ p.Other.size ≤ 100
instance (l : List TField) (p : TPlan) : Decidable (Few13 l p) := by unfold Few13; infer_instance
theorem Few13_eq (l : List TField) (p : TPlan) : usufructlaw13_Few l p = some (decide (Few13 l p)) := by
  unfold usufructlaw13_Few
  by_cases h : l.length ≤ 8
  · rw [gd_t (by simp; omega), Few7_eq l (by omega), obs]
    refine sd ?_
    have h' : (l.length : Int) ≤ 8 := by omega
    simp only [Few13, h, h', decide_true, Bool.true_and, true_and, Bool.and_eq_true, decide_eq_true_eq, and_assoc]
    refine and_congr_right fun _ => ?_
    omega
  · rw [gd_f (by simp; omega), obs]
    refine sd ?_
    have h' : ¬ (l.length : Int) ≤ 8 := by omega
    simp [Few13, h, h']
theorem Few13.small {l : List TField} {p : TPlan} (h : Few13 l p) : Small l := ⟨by have := h.1; omega, fun f hf => by have := h.2.1 f hf; omega⟩
end Go.Av
namespace Go.Av
set_option linter.unusedSectionVars false
set_option linter.unusedVariables false
set_option linter.unusedSimpArgs false

theorem size_list (s : ByteArray) : s.toList.length = s.size := by rw [ByteArray.toList_eq]; rfl
theorem bAt_list {s : ByteArray} {i : Nat} (h : i < s.toList.length) : bAt s i = ((s.toList[i]).toNat : Int) := by
  have hs : i < s.size := by rw [size_list] at h; exact h
  unfold bAt bix
  rw [dif_pos (by omega)]
  simp only [Option.getD_some, Int.toNat_natCast]
  have : s.toList[i] = s[i] := by
    have e : s.toList = s.data.toList := ByteArray.toList_eq s
    simp only [e, Array.getElem_toList]; rfl
  rw [this]
theorem before_eq (a b : ByteArray) (ha : a.size ≤ 1000000000000000) : usufructref13_before a b = some (bLs a b) := by
  unfold usufructref13_before
  suffices key : ∃ r, loopM (usufructref13_before_L1 a b) fuel 0 = some r ∧ onS (fun _ => some (decide ((a.size : Int) < (b.size : Int)))) (fun r => some r) r = some (bLs a b) by
    obtain ⟨r, h1, h2⟩ := key
    rw [h1]; exact h2
  refine loopM_ind (body := usufructref13_before_L1 a b) (fun i t => t = (i : Int) ∧ bLs a b = Op.bytesLess (a.toList.drop i) (b.toList.drop i)) (min a.size b.size) (by omega)
    (fun r => onS (fun _ => some (decide ((a.size : Int) < (b.size : Int)))) (fun r => some r) r = some (bLs a b)) (fun i t hi hI => ?_) (fun t hI => ?_) (s0 := 0) ⟨rfl, by simp [bLs]⟩
  · obtain ⟨rfl, hI⟩ := hI
    have ia : i < a.size := by omega
    have ib : i < b.size := by omega
    have la : i < a.toList.length := by rw [size_list]; exact ia
    have lb : i < b.toList.length := by rw [size_list]; exact ib
    simp only [usufructref13_before_L1, bix_of ia, bix_of ib, obs]
    rw [if_pos (by simp; omega)]
    rw [List.drop_eq_getElem_cons la, List.drop_eq_getElem_cons lb] at hI
    have ea := bAt_list la
    have eb := bAt_list lb
    simp only [wr_succ (show i < 1000000000000000 by omega)]
    by_cases h : bAt a i = bAt b i
    · rw [if_neg (by simp [h])]
      refine .inl ⟨_, rfl, rfl, ?_⟩
      rw [hI]
      refine Bool.eq_iff_iff.2 ((bl_cons _ _ _ _).trans ?_)
      constructor
      · rintro (k | k)
        · omega
        · exact k.2
      · intro k; exact .inr ⟨by omega, k⟩
    · rw [if_pos (by simp [h])]
      refine .inr ⟨_, rfl, ?_⟩
      show some (decide (bAt a i < bAt b i)) = _
      rw [hI]
      congr 1
      refine Bool.eq_iff_iff.2 ((Iff.of_eq (decide_eq_true_eq)).trans ((?_ : _ ↔ _).trans (bl_cons _ _ _ _).symm))
      constructor
      · intro k; exact .inl (by omega)
      · rintro (k | k)
        · omega
        · omega
  · obtain ⟨rfl, hI⟩ := hI
    refine ⟨_, by simp only [usufructref13_before_L1]; rw [if_neg (by simp; omega)], ?_⟩
    show some (decide ((a.size : Int) < (b.size : Int))) = _
    rw [hI]
    congr 1
    by_cases h : a.size < b.size
    · rw [decide_eq_true (by omega : (a.size : Int) < (b.size : Int))]
      have e1 : a.toList.drop (min a.size b.size) = [] := List.drop_eq_nil_of_le (by rw [size_list]; omega)
      have lb : min a.size b.size < b.toList.length := by rw [size_list]; omega
      rw [e1, List.drop_eq_getElem_cons lb]; rfl
    · rw [decide_eq_false (by omega : ¬ (a.size : Int) < (b.size : Int))]
      have e1 : b.toList.drop (min a.size b.size) = [] := List.drop_eq_nil_of_le (by rw [size_list]; omega)
      rw [e1, bl_nil]
theorem ref13_Fields_eq (l : List TField) (hl : Small l) : usufructref13_Fields l = some (decide (FsOk l)) := by
  have hn := hl.1
  unfold usufructref13_Fields
  rw [loop_all l.length (by omega) (LinkF l) false () (fun i hi => ?_) (by simp [-List.getD_eq_getElem?_getD, usufructref13_Fields_L1])]
  · by_cases h : ∀ i, i < l.length → LinkF l i
    · rw [if_pos h]
      have := (linksF_iff l).1 h
      refine sd ?_
      simp only [FsOk, this.2, true_and, decide_eq_true_eq]
      exact ⟨fun h => ⟨this.1, by omega⟩, fun h => by omega⟩
    · rw [if_neg h, decide_eq_false (fun h2 : FsOk l => h ((linksF_iff l).2 ⟨h2.1, h2.2.1⟩))]; rfl
  · have hs := hl.at i
    simp only [usufructref13_Fields_L1, six_of hi, letM_eq, obs, ref07_Right_eq _ (show (l.getD i default).Name.size ≤ 1000000000000000 by omega) (show (l.getD i default).Holds.length ≤ 1000000000000 by omega)]
    rw [if_pos (by simp; omega)]
    simp only [wr_succ (show i < 1000000000000000 by omega)]
    by_cases h1 : FOk (l.getD i default)
    · by_cases h0 : 0 < i
      · have hp := hl.at (i - 1)
        have g : ((!decide (FOk (l.getD i default))) = false) ∧ (decide ((0 : Int) < (i : Int))) = true := ⟨by rw [decide_eq_true h1]; rfl, by simp; omega⟩
        rw [gd_t g, wr_pred h0 (by omega), six_of (by omega), obs, gd_t g, obs, gd_t g, before_eq _ _ (show (l.getD (i - 1) default).Name.size ≤ 1000000000000000 by omega), obs]
        by_cases h2 : RN (l.getD (i - 1) default) (l.getD i default)
        · have h2' : bLs (l.getD (i - 1) default).Name (l.getD i default).Name = true := h2
          rw [if_neg (by rw [decide_eq_true h1, h2']; simp), if_pos ⟨h1, fun _ => h2⟩]
        · have h2' : bLs (l.getD (i - 1) default).Name (l.getD i default).Name = false := by simpa [RN, -List.getD_eq_getElem?_getD] using h2
          rw [if_pos (by rw [decide_eq_true h1, h2', decide_eq_true (show (0 : Int) < (i : Int) by omega)]; rfl), if_neg (fun k => h2 (k.2 h0))]
      · obtain rfl : i = 0 := by omega
        rw [gd_f (by simp), obs, gd_f (by simp), obs, gd_f (by simp), obs]
        rw [if_neg (by rw [decide_eq_true h1]; simp), if_pos ⟨h1, fun k => by omega⟩]
    · have g : ¬ (((!decide (FOk (l.getD i default))) = false) ∧ (decide ((0 : Int) < (i : Int))) = true) := fun k => by rw [decide_eq_false h1] at k; exact absurd k.1 (by decide)
      rw [gd_f g, obs, gd_f g, obs, gd_f g, obs]
      rw [if_pos (by rw [decide_eq_false h1]; rfl), if_neg (fun k => h1 k.1)]
theorem ref13_Right_eq (p : TPlan) (h1 : p.Name.size ≤ 1000000) (h2 : p.Other.size ≤ 1000000) : usufructref13_Right p = some (decide (PlOk p)) := by
  unfold usufructref13_Right
  rw [ref_Name_eq p.Name (by omega), ref_Name_eq p.Other (by omega), ref_Is_eq, ref_Is_eq]
  by_cases k : p.Kind < 1 ∨ 6 < p.Kind
  · have hn : ¬ PlOk p := fun h => by have := h.2.2.2; unfold kindOk at this; omega
    have e : ((decide (p.Kind < 1)) || (decide (6 < p.Kind))) = true := by simpa using k
    rw [e, gd_f (by simp), obs, gd_f (by simp), obs, letM_eq, gd_f (by simp), obs, if_pos (by simp), decide_eq_false hn]
  have e : ((decide (p.Kind < 1)) || (decide (6 < p.Kind))) = false := by simpa using k
  rw [e, gd_t rfl, obs]
  by_cases a : NameOk p.Name
  rotate_left
  · have hn : ¬ PlOk p := fun h => a h.1
    rw [gd_f (by simp [a]), obs, letM_eq, gd_f (by simp [a]), obs, if_pos (by simp [a]), decide_eq_false hn]
  rw [gd_t (by simp [a]), obs, letM_eq]
  by_cases b : IsN p.A
  rotate_left
  · have hn : ¬ PlOk p := fun h => b h.2.1
    rw [gd_f (by simp [b]), obs, if_pos (by simp [b]), decide_eq_false hn]
  rw [gd_t (by simp [a, b]), obs]
  by_cases c : IsN p.B
  rotate_left
  · have hn : ¬ PlOk p := fun h => c h.2.2.1
    rw [if_pos (by simp [c]), decide_eq_false hn]
  rw [if_neg (by simp [a, b, c]), obs, letM_eq]
  have hP : PlOk p ↔ kindOk p := ⟨fun h => h.2.2.2, fun h => ⟨a, b, c, h⟩⟩
  by_cases c2 : p.Kind ≤ 2
  · rw [if_pos (by simpa using c2)]
    refine sd ?_
    rw [hP]
    unfold kindOk
    simp only [Bool.and_eq_true, Bool.or_eq_true, decide_eq_true_eq]
    change ((p.Other = noS ∧ _) ∧ _) ∧ _ ↔ _
    constructor
    · rintro ⟨⟨⟨h1, h2⟩, h3⟩, h4⟩
      exact .inl ⟨by omega, h1, h2, h3, by omega⟩
    · rintro (h | h | h | h | h)
      · exact ⟨⟨⟨h.2.1, h.2.2.1⟩, h.2.2.2.1⟩, by omega⟩
      all_goals omega
  rw [if_neg (by simpa using c2)]
  by_cases c3 : p.Kind = 3
  · rw [if_pos (by simp [c3])]
    refine sd ?_
    rw [hP]
    unfold kindOk
    simp [c3, and_assoc, noS]
  rw [if_neg (by simp [c3])]
  by_cases c4 : p.Kind = 4
  · rw [if_pos (by simp [c4])]
    refine sd ?_
    rw [hP]
    unfold kindOk
    simp [c4, and_assoc, noS]
  rw [if_neg (by simp [c4])]
  by_cases c5 : p.Kind = 5
  · rw [if_pos (by simp [c5])]
    refine sd ?_
    rw [hP]
    unfold kindOk
    have : (0 : Int) < p.A ↔ 1 ≤ p.A := by omega
    simp [c5, and_assoc, this]
  rw [if_neg (by simp [c5])]
  have c6 : p.Kind = 6 := by omega
  refine sd ?_
  rw [hP]
  unfold kindOk
  simp [c6, and_assoc]
end Go.Av
namespace Go.Av
set_option linter.unusedSectionVars false
set_option linter.unusedVariables false
set_option linter.unusedSimpArgs false

theorem wf_i64 {x : Int} (h : (Lit.int .i64 x).wf = true) : inI64 x = true := by
  simp [Lit.wf, IntKind.min, IntKind.max, IntKind.signed, IntKind.bits] at h
  simp [inI64]; omega
end Go.Av
namespace Go.Av
set_option linter.unusedSectionVars false
set_option linter.unusedVariables false
set_option linter.unusedSimpArgs false

def badV (f : TField) : Bool := !decide ((viewS f).2 = 0)
/-- All views. -/
def totS (l : List TField) : Int × Int := match l.findIdx? badV with
  | some i => (0, (viewS (l.getD i default)).2)
  | none => sumS (l.map fun f => (viewS f).1)
theorem tot_loop {body : Int × List Int → Option ((Int × List Int) ⊕ ((List Int) ⊕ (Int × Int)))} (l : List TField) (hl : l.length ≤ 1000000)
    (hb : ∀ i s, body (i, s) = if (decide (i < (l.length : Int))) = true then
      Option.bind (six l i) fun j5 =>
      letM (l.getD j5 default) fun v6 =>
      Option.bind (some (viewS v6)) fun r7 =>
      if (!decide (r7.2 = 0)) = true then
        some (.inr (.inr (0, r7.2)))
      else
        Option.bind (app 8 s [r7.1]) fun l8 =>
        some (.inl ((wr .i64 (i + 1)), l8))
    else
      some (.inr (.inl s))) :
    loopM body fuel (0, ([] : List Int)) = some (match l.findIdx? badV with | some i => .inr (0, (viewS (l.getD i default)).2) | none => .inl (l.map fun f => (viewS f).1)) := by
  refine loopM_eq (fun i s => s = ((i : Int), (l.take i).map fun f => (viewS f).1) ∧ ∀ j, j < i → badV (l.getD j default) = false) l.length (by omega) _ ?_ ?_ ⟨by simp, fun j h => by omega⟩
  · rintro i s hi ⟨rfl, hI⟩
    rw [hb, if_pos (by simp; omega), six_of hi, obs, letM_eq, obs]
    simp only [wr_succ (show i < 1000000000000000 by omega)]
    by_cases h : badV (l.getD i default) = true
    · refine .inr ?_
      have : l.findIdx? badV = some i := by
        rw [List.findIdx?_eq_some_iff_getElem]
        refine ⟨hi, by simpa [List.getD, hi] using h, fun j hj => ?_⟩
        have := hI j hj
        simp [List.getD, show j < l.length by omega] at this
        simp [this]
      rw [this, if_pos (by simpa only [badV] using h)]
    · refine .inl ⟨_, by rw [if_neg (by simpa only [badV] using h), app_of (by simp only [List.length_cons, List.length_nil, List.length_map, List.length_take]; omega), obs], ?_, fun j hj => ?_⟩
      · congr 1
        rw [show l.getD i default = l[i] by simp [List.getD, hi], ← List.take_append_getElem hi, List.map_append]
        rfl
      · rcases Nat.lt_succ_iff_lt_or_eq.1 hj with h2 | rfl
        · exact hI j h2
        · simpa using h
  · rintro s ⟨rfl, hI⟩
    have : l.findIdx? badV = none := by
      rw [List.findIdx?_eq_none_iff]
      intro y hy
      obtain ⟨i, hi, rfl⟩ := List.getElem_of_mem hy
      simpa [List.getD, hi] using hI i hi
    rw [hb, if_neg (by simp), this]; simp
theorem plan_Total_eq (l : List TField) (hl : l.length ≤ 1000000) : plan_Total l = some (totS l) := by
  unfold plan_Total totS
  rw [tot_loop l hl (fun i s => by simp only [plan_Total_L1, field_View_eq])]
  cases l.findIdx? badV with
  | some i => rfl
  | none => rw [obs]; simp only [onS]; rw [num_Sum_eq _ (by simp; omega), obs]
theorem ref13_Total_eq (l : List TField) (hl : l.length ≤ 1000000) : usufructref13_Total l = some (totS l) := by
  unfold usufructref13_Total totS
  rw [tot_loop l hl (fun i s => by simp only [usufructref13_Total_L1, ref07_View_eq])]
  cases l.findIdx? badV with
  | some i => rfl
  | none => rw [obs]; simp only [onS]; rw [ref_Sum_eq1 _ (by simp; omega), obs]
def ixI (o : Option Nat) : Int := match o with | some i => (i : Int) | none => -1
theorem ref13_at_eq (l : List TField) (n : ByteArray) (hl : l.length ≤ 1000000) : usufructref13_at l n = some (ixI (fidx l n)) := by
  unfold usufructref13_at fidx ixI
  rw [loop_first l (by omega) (fun f => decide (f.Name = n)) (fun i => (i : Int)) () (fun i hi => ?_) (by simp [usufructref13_at_L1])]
  · cases l.findIdx? (fun f => decide (f.Name = n)) <;> rfl
  · simp only [usufructref13_at_L1, six_of hi, obs]
    rw [if_pos (by simp; omega)]
    simp only [wr_succ (show i < 1000000000000000 by omega)]
    by_cases h : decide ((l.getD i default).Name = n) = true
    · rw [if_pos h, if_pos h]
    · rw [if_neg h, if_neg h]
theorem ref13_held_eq (f : TField) (hl : f.Holds.length ≤ 1000000) : usufructref13_held f = some (heldF f) := by
  unfold usufructref13_held heldF
  rw [loop_first f.Holds (by omega) isH (fun i => true) () (fun i hi => ?_) (by simp [usufructref13_held_L1])]
  · have h : (f.Holds.findIdx? isH).isSome = f.Holds.any isH := by simp
    rw [← h]
    cases f.Holds.findIdx? isH <;> rfl
  · simp only [usufructref13_held_L1, six_of hi, obs]
    rw [if_pos (by simp; omega)]
    simp only [wr_succ (show i < 1000000000000000 by omega)]
    by_cases h : isH (f.Holds.getD i default) = true
    · rw [if_pos (by simpa only [isH] using h), if_pos h]
    · rw [if_neg (by simpa only [isH] using h), if_neg h]
/-- Where kinds and holds are looked at. -/
theorem chk_ref (l : List TField) (p : TPlan) (hl : Small l) (k : Int) (i : Nat) (hi : i < l.length) (o : Option Nat) (ho : p.Kind = 6 → ∃ j, o = some j ∧ j < l.length) :
    (Option.bind (six l (i : Int)) fun j15 =>
      Option.bind (gd (((!decide ((l.getD j15 default).Kind = k)) = false) ∧ (decide (p.Kind = 6)) = true) (six l (ixI o))) fun j16 =>
      letM ((!decide ((l.getD j15 default).Kind = k)) || ((decide (p.Kind = 6)) && (!decide ((l.getD j16 default).Kind = k)))) fun v17 =>
      if v17 = true then some 17
      else
        Option.bind (six l (i : Int)) fun j18 =>
        letM (l.getD j18 default) fun v19 =>
        Option.bind (usufructref13_held v19) fun r20 =>
        Option.bind (gd ((r20 = false) ∧ (decide (p.Kind = 6)) = true) (six l (ixI o))) fun j21 =>
        Option.bind (gd ((r20 = false) ∧ (decide (p.Kind = 6)) = true) (usufructref13_held (l.getD j21 default))) fun r22 =>
        if (r20 || ((decide (p.Kind = 6)) && r22)) = true then some (12 : Int) else some 0) =
    some (chkS (l.getD i default :: (if p.Kind = 6 then (match o with | some j => [l.getD j default] | none => []) else [])) k) := by
  have h1 := hl.at i
  by_cases c6 : p.Kind = 6
  · obtain ⟨j, rfl, hj⟩ := ho c6
    have h2 := hl.at j
    simp only [ixI, six_of hi, six_of hj, obs, letM_eq, ref13_held_eq _ (show (l.getD i default).Holds.length ≤ 1000000 by omega)]
    rw [if_pos c6]
    unfold chkS
    by_cases a : (l.getD i default).Kind = k
    · rw [gd_t ⟨by rw [decide_eq_true a]; rfl, by simp [c6]⟩, obs]
      by_cases b : (l.getD j default).Kind = k
      · rw [if_neg (by rw [decide_eq_true a, decide_eq_true b]; simp), if_neg (by simp only [List.any_cons, List.any_nil, offK, decide_eq_true a, decide_eq_true b]; decide)]
        cases d : heldF (l.getD i default) with
        | true => rw [gd_f (by simp), obs, gd_f (by simp), obs, if_pos (by simp), if_pos (by simp only [List.any_cons, d]; rfl)]
        | false =>
          rw [gd_t ⟨rfl, by simp [c6]⟩, obs, gd_t ⟨rfl, by simp [c6]⟩, ref13_held_eq _ (by omega), obs]
          cases d2 : heldF (l.getD j default) with
          | true => rw [if_pos (by simp [c6]), if_pos (by simp only [List.any_cons, d, d2]; rfl)]
          | false => rw [if_neg (by simp), if_neg (by simp only [List.any_cons, List.any_nil, d, d2]; decide)]
      · rw [if_pos (by rw [decide_eq_false b]; simp [c6]), if_pos (by simp only [List.any_cons, List.any_nil, offK, decide_eq_false b]; simp)]
    · rw [gd_f (fun q => by rw [decide_eq_false a] at q; exact absurd q.1 (by decide)), obs, if_pos (by rw [decide_eq_false a]; rfl), if_pos (by simp only [List.any_cons, List.any_nil, offK, decide_eq_false a]; rfl)]
  · simp only [six_of hi, obs, letM_eq, ref13_held_eq _ (show (l.getD i default).Holds.length ≤ 1000000 by omega)]
    rw [if_neg c6]
    have e : ∀ f : TField, chkS [f] k = if offK k f = true then 17 else if heldF f = true then 12 else 0 := fun f => by unfold chkS; simp
    rw [e]
    have n6 : ∀ q : Prop, ¬ (q ∧ decide (p.Kind = 6) = true) := fun q h => by simp [c6] at h
    rw [gd_f (n6 _), obs, gd_f (n6 _), obs, gd_f (n6 _), obs, decide_eq_false c6]
    change (if (offK k (l.getD i default) || (false && _)) = true then _ else _) = _
    cases a : offK k (l.getD i default) with
    | true => rfl
    | false => cases d : heldF (l.getD i default) <;> rfl
theorem ref13_Fits_eq (l : List TField) (p : TPlan) (hl : Small l) (h1 : p.Name.size ≤ 1000000) (h2 : p.Other.size ≤ 1000000) : usufructref13_Fits l p = some (fitsS l p) := by
  have hn := hl.1
  unfold usufructref13_Fits fitsS
  rw [ref13_Fields_eq l hl, obs]
  by_cases c1 : FsOk l
  rotate_left
  · rw [if_neg c1, if_pos (by simp [c1])]
  rw [if_pos c1, if_neg (by simp [c1]), ref13_Right_eq p h1 h2, obs]
  by_cases c2 : PlOk p
  rotate_left
  · rw [if_neg c2, if_pos (by simp [c2])]
  rw [if_pos c2, if_neg (by simp [c2]), ref13_at_eq l _ (by omega), obs, ref13_at_eq l _ (by omega), obs]
  have l4 := c1.2.2
  unfold tch
  rw [fnd_idx, fnd_idx]
  cases ha : fidx l p.Name with
  | none => rw [if_pos (by simp [ixI])]; rfl
  | some i =>
    have hi := fidx_lt ha
    simp only [Option.map_some]
    have ei : ixI (some i) = (i : Int) := rfl
    rw [ei]
    have di : decide ((i : Int) < 0) = false := by simp
    rw [di]
    have hs : decide (0 ≤ ixI (fidx l p.Other)) = (fidx l p.Other).isSome := by cases fidx l p.Other with | none => rfl | some j => simp [ixI]
    have hs' : decide (ixI (fidx l p.Other) < 0) = !(fidx l p.Other).isSome := by cases fidx l p.Other with | none => rfl | some j => exact decide_eq_false (show ¬ ((j : Int) < 0) by omega)
    have h44 : decide (4 ≤ (l.length : Int)) = decide (l.length = 4) := decide_eq_decide.2 (by omega)
    rw [hs, hs', h44]
    by_cases c6 : p.Kind = 6
    · simp only [if_pos c6]
      cases hb : fidx l p.Other with
      | none => rw [if_pos (by simp [c6])]; rfl
      | some j =>
        have hj := fidx_lt hb
        rw [if_neg (by simp), if_neg (by simp [c6]), if_neg (by simp [c6]), if_neg (by simp [c6])]
        simp only [Option.map_some]
        rw [if_neg (by omega), if_neg (by omega)]
        have := chk_ref l p hl 1 i hi (some j) (fun _ => ⟨j, rfl, hj⟩)
        rw [if_pos c6] at this
        exact this
    · simp only [if_neg c6]
      rw [if_neg (by simp [c6])]
      have key : ∀ k, _ := fun k => chk_ref l p hl k i hi (fidx l p.Other) (fun h => (c6 h).elim)
      simp only [if_neg c6] at key
      by_cases c5 : p.Kind = 5
      · rw [if_pos c5]
        cases hb : (fidx l p.Other).isSome with
        | true => rw [if_pos (by simp [c5]), if_pos rfl]
        | false =>
          rw [if_neg (by simp), if_neg (show ¬ (false = true) by simp)]
          by_cases c7 : l.length = 4
          · rw [if_pos (by simp [c5, c7]), if_pos c7]
          · rw [if_neg (by simp [c7]), if_neg c7, if_neg (by simp [c5])]
            exact key 1
      · rw [if_neg c5, if_neg (by simp [c5]), if_neg (by simp [c5])]
        by_cases c4 : p.Kind = 4
        · rw [if_pos (by simp [c4]), if_pos c4]; exact key 2
        · rw [if_neg (by simp [c4]), if_neg c4]; exact key 1
end Go.Av
namespace Go.Av
set_option linter.unusedSectionVars false
set_option linter.unusedVariables false
set_option linter.unusedSimpArgs false

theorem tells_loop (l : List TField) (n : ByteArray) (hl : l.length ≤ 1000000) : loopM (usufructlaw13_PlanTells_L1 l n) fuel (wr .i64 ((l.length : Int) - 1), false, 0) = some (match fidx l n with | some i => (true, (i : Int)) | none => (false, 0)) := by
  rw [wr_id (by omega)]
  have key : ∃ r, loopM (usufructlaw13_PlanTells_L1 l n) fuel ((l.length : Int) - 1, false, 0) = some r ∧ r = (match fidx l n with | some i => (true, (i : Int)) | none => (false, 0)) := by
    refine loopM_ind (fun k (s : Int × Bool × Int) => s.1 = (l.length : Int) - 1 - (k : Int) ∧
      ((∃ w : Nat, l.length - k ≤ w ∧ w < l.length ∧ s.2 = (true, (w : Int)) ∧ (l.getD w default).Name = n ∧ ∀ j, l.length - k ≤ j → j < w → (l.getD j default).Name ≠ n) ∨
        (s.2 = (false, 0) ∧ ∀ j, l.length - k ≤ j → j < l.length → (l.getD j default).Name ≠ n))) l.length (by omega) (fun r => r = (match fidx l n with | some i => (true, (i : Int)) | none => (false, 0))) ?_ ?_ ?_
    · rintro k ⟨s1, s2⟩ hk ⟨rfl, hI⟩
      have e : (l.length : Int) - 1 - (k : Int) = ((l.length - 1 - k : Nat) : Int) := by omega
      have hi : l.length - 1 - k < l.length := by omega
      refine .inl ?_
      simp only [usufructlaw13_PlanTells_L1]
      rw [if_pos (by simp; omega), e, six_of hi, obs]
      have w : wr .i64 (((l.length - 1 - k : Nat) : Int) - 1) = (l.length : Int) - 1 - ((k + 1 : Nat) : Int) := by rw [wr_id (by omega)]; omega
      rw [w]
      by_cases h : (l.getD (l.length - 1 - k) default).Name = n
      · rw [if_pos (by rw [h]; simp)]
        exact ⟨_, rfl, rfl, .inl ⟨l.length - 1 - k, by omega, hi, rfl, h, fun j h1 h2 => by omega⟩⟩
      · rw [if_neg (by simpa [-List.getD_eq_getElem?_getD] using h)]
        refine ⟨_, rfl, rfl, ?_⟩
        rcases hI with ⟨w, h1, h2, h3, h4, h5⟩ | ⟨h3, h4⟩
        · refine .inl ⟨w, by omega, h2, h3, h4, fun j j1 j2 => ?_⟩
          by_cases hj : j = l.length - 1 - k
          · subst hj; exact h
          · exact h5 j (by omega) j2
        · refine .inr ⟨h3, fun j j1 j2 => ?_⟩
          by_cases hj : j = l.length - 1 - k
          · subst hj; exact h
          · exact h4 j (by omega) j2
    · rintro ⟨s1, s2⟩ ⟨rfl, hI⟩
      refine ⟨s2, by simp only [usufructlaw13_PlanTells_L1]; rw [if_neg (by simp; omega)], ?_⟩
      rcases hI with ⟨w, h1, h2, h3, h4, h5⟩ | ⟨h3, h4⟩
      · have : fidx l n = some w := by
          unfold fidx
          rw [List.findIdx?_eq_some_iff_getElem]
          refine ⟨h2, by simpa [List.getD, h2] using h4, fun j hj => ?_⟩
          have := h5 j (by omega) hj
          simp [List.getD, show j < l.length by omega] at this
          simp [this]
        rw [this]; exact h3
      · have : fidx l n = none := by
          unfold fidx
          rw [List.findIdx?_eq_none_iff]
          intro y hy
          obtain ⟨i, hi, rfl⟩ := List.getElem_of_mem hy
          simpa [List.getD, hi] using h4 i (by omega) hi
        rw [this]; exact h3
    · exact ⟨by simp, .inr ⟨rfl, fun j h1 h2 => by omega⟩⟩
  obtain ⟨r, h1, h2⟩ := key
  rw [h1, h2]
theorem PlanTells_true (l : List TField) (p : TPlan) (n : ByteArray) (hk : (Lit.int .i64 p.Kind).wf = true) : usufructlaw13_PlanTells l p n = some true := by
  have hk : inI64 p.Kind = true := wf_i64 hk
  unfold usufructlaw13_PlanTells
  rw [Few13_eq, obs]
  by_cases hF : Few13 l p ∧ ¬ (100 < n.size)
  rotate_left
  · rw [if_pos, awake13_eq]
    · rfl
    · by_cases h : Few13 l p
      · have := fun k => hF ⟨h, k⟩
        have h' : 100 < n.size := Classical.not_not.1 this
        simp [show (100 : Int) < (n.size : Int) by omega]
      · simp [h]
  have hl := hF.1.small
  have hn := hF.1.1
  have hp1 := hF.1.2.2.1
  have hp2 := hF.1.2.2.2
  rw [if_neg (by simp [hF.1]; omega)]
  have p1 : p.Name.size ≤ 1000000 := by omega
  have p2 : p.Other.size ≤ 1000000 := by omega
  rw [plan_Total_eq l (by omega), obs, ref13_Total_eq l (by omega), obs, plan_Find_eq l _ (by omega), obs, letM_eq, tells_loop l n (by omega), obs, plan_Touched_eq, obs, letM_eq]
  have ht : tchB p n = ((decide (n = p.Name)) || ((!decide (p.Other = (⟨#[]⟩ : ByteArray))) && (decide (n = p.Other)))) := rfl
  rw [← ht, if_neg (by simp), plan_Fields_eq l hl, obs, ref13_Fields_eq l hl, obs, plan_Right_eq p hk p1 p2, ref13_Right_eq p p1 p2, plan_Fits_eq l p hl hk p1 p2, ref13_Fits_eq l p hl p1 p2, awake13_eq]
  simp only [gd_nb, obs, letM_eq, BEq.rfl, if_true, Bool.and_self, decide_true]
  cases fidx l n with
  | none => simp [gd]
  | some i => simp [gd]
end Go.Av
