/- Holds, in plain words. -/
import Derived.Test.YtdbiobndihpccabAvLNum0
namespace Go.Av
set_option linter.unusedVariables false
set_option linter.unusedSimpArgs false

def Cnt (n : Int) : Prop := 0 ≤ n ∧ n ≤ 1099511627776
instance (n : Int) : Decidable (Cnt n) := by unfold Cnt; infer_instance
def HOk (h : THold) : Prop := 0 ≤ h.Replica ∧ h.Replica < 16 ∧ 1 ≤ h.Number ∧ h.Number ≤ 1099511627776 ∧ Cnt h.Amount ∧ Cnt h.Due ∧ 1 ≤ h.State ∧ h.State ≤ 3
instance (h : THold) : Decidable (HOk h) := by unfold HOk; infer_instance
theorem hold_count_eq (n : Int) : hold_count n = some (decide (Cnt n)) := by
  unfold hold_count
  rw [num_Is_eq]
  by_cases h : 0 ≤ n
  · rw [gd_t (by simp [h])]; refine sd ?_; simp only [Bool.and_eq_true, decide_eq_true_eq]; unfold IsN Cnt; omega
  · rw [gd_f (by simp [-List.getD_eq_getElem?_getD, h])]; refine sd ?_; simp [-List.getD_eq_getElem?_getD, h, Cnt]
theorem ref_counts_eq (n : Int) : usufructref06_counts n = some (decide (Cnt n)) := by
  unfold usufructref06_counts
  rw [ref_Is_eq]
  by_cases h : 0 ≤ n
  · rw [gd_t (by simp [h])]; refine sd ?_; simp only [Bool.and_eq_true, decide_eq_true_eq]; unfold IsN Cnt; omega
  · rw [gd_f (by simp [-List.getD_eq_getElem?_getD, h])]; refine sd ?_; simp [-List.getD_eq_getElem?_getD, h, Cnt]
theorem hold_Right_eq (h : THold) : hold_Right h = some (decide (HOk h)) := by
  unfold hold_Right
  simp only [num_Is_eq, hold_count_eq, letM_eq, gd_and, Option.bind]
  refine sd ?_
  simp only [Bool.and_eq_true, Bool.if_false_right, decide_eq_true_eq]
  first | unfold HOk IsN Cnt | unfold HOk Cnt
  omega
theorem ref_Right_eq (h : THold) : usufructref06_Right h = some (decide (HOk h)) := by
  unfold usufructref06_Right
  simp only [ref_counts_eq, letM_eq, gd_and, Option.bind]
  refine sd ?_
  simp only [Bool.and_eq_true, Bool.if_false_right, decide_eq_true_eq]
  first | unfold HOk IsN Cnt | unfold HOk Cnt
  omega

def HLt (a b : THold) : Prop := a.Replica < b.Replica ∨ (a.Replica = b.Replica ∧ a.Number < b.Number)
instance (a b : THold) : Decidable (HLt a b) := by unfold HLt; infer_instance
theorem HLt.trans {a b c : THold} (h : HLt a b) (k : HLt b c) : HLt a c := by unfold HLt at *; omega
theorem cmp_ge (a b : THold) : 0 ≤ holdCmp a b ↔ ¬ HLt a b := by
  unfold holdCmp HLt
  by_cases h : a.Replica = b.Replica
  · by_cases h1 : a.Number = b.Number
    · simp [-List.getD_eq_getElem?_getD, h, h1]
    · by_cases h2 : a.Number < b.Number <;> simp [-List.getD_eq_getElem?_getD, h, h1, h2]
  · by_cases h2 : a.Replica < b.Replica <;> simp [-List.getD_eq_getElem?_getD, h, h2]
theorem ref_Ahead_eq (a b : THold) : usufructref06_Ahead a b = some (decide (HLt a b)) := sd (by simp [-List.getD_eq_getElem?_getD, HLt])

def Rts (l : List THold) : Prop := (∀ h ∈ l, HOk h) ∧ l.Pairwise HLt ∧ l.length ≤ 16
instance (l : List THold) : Decidable (Rts l) := by unfold Rts; infer_instance
def Link (l : List THold) (i : Nat) : Prop := HOk (l.getD i default) ∧ (0 < i → HLt (l.getD (i - 1) default) (l.getD i default))
instance (l : List THold) : DecidablePred (Link l) := fun i => by unfold Link; infer_instance
theorem links_iff (l : List THold) : (∀ i, i < l.length → Link l i) ↔ (∀ h ∈ l, HOk h) ∧ l.Pairwise HLt := by
  constructor
  · intro h
    refine ⟨fun x hx => ?_, ?_⟩
    · obtain ⟨i, hi, rfl⟩ := List.getElem_of_mem hx
      simpa [List.getD, hi] using (h i hi).1
    · rw [List.pairwise_iff_getElem]
      intro i j hi hj hij
      induction j with
      | zero => omega
      | succ j ih =>
        have h1 := (h (j + 1) hj).2 (by omega)
        have e1 : l.getD (j + 1 - 1) default = l[j] := by simp [List.getD, show j < l.length by omega]
        have e2 : l.getD (j + 1) default = l[j + 1] := by simp [List.getD, hj]
        rw [e1, e2] at h1
        rcases Nat.lt_succ_iff_lt_or_eq.1 hij with h2 | rfl
        · exact (ih (by omega) h2).trans h1
        · exact h1
  · rintro ⟨h1, h2⟩ i hi
    rw [List.pairwise_iff_getElem] at h2
    refine ⟨by rw [show l.getD i default = l[i] by simp [List.getD, hi]]; exact h1 _ (List.getElem_mem hi), fun h0 => ?_⟩
    rw [show l.getD i default = l[i] by simp [List.getD, hi], show l.getD (i - 1) default = l[i - 1] by simp [List.getD, show i - 1 < l.length by omega]]
    exact h2 _ _ (by omega) hi (by omega)

theorem hold_Rights_eq (l : List THold) (hl : l.length ≤ 1000000000000000) : hold_Rights l = some (decide (Rts l)) := by
  unfold hold_Rights
  rw [loop_all l.length hl (Link l) false () (fun i hi => ?_) (by simp [-List.getD_eq_getElem?_getD, hold_Rights_L1])]
  · by_cases h : ∀ i, i < l.length → Link l i
    · rw [if_pos h]
      have := (links_iff l).1 h
      refine sd ?_
      simp only [Rts, this.1, this.2, true_and, decide_eq_true_eq]
      exact ⟨fun h => ⟨this.1, by omega⟩, fun h => by omega⟩
    · rw [if_neg h]
      have : ¬ Rts l := fun h2 => h ((links_iff l).2 ⟨h2.1, h2.2.1⟩)
      simp [-List.getD_eq_getElem?_getD, this]
  · simp only [hold_Rights_L1, hold_Right_eq, six_of hi, letM_eq, Option.bind]
    rw [if_pos (by simp; omega)]
    simp only [wr_succ (show i < 1000000000000000 by omega)]
    by_cases h1 : HOk (l.getD i default)
    · by_cases h0 : 0 < i
      · rw [gd_t (by simp [-List.getD_eq_getElem?_getD, h1, h0]), wr_pred h0 (by omega), six_of (by omega)]
        simp only [Option.bind]
        rw [gd_t (by simp [-List.getD_eq_getElem?_getD, h1, h0]), hold_compare_eq]
        simp only [Option.bind, cmp_ge, Link, h1, h0, true_and]
        by_cases h2 : HLt (l.getD (i - 1) default) (l.getD i default) <;> simp [-List.getD_eq_getElem?_getD, h2, h0]
      · obtain rfl : i = 0 := by omega
        simp [-List.getD_eq_getElem?_getD, h1, Link]
    · have : ¬ Link l i := fun h => h1 h.1
      rw [gd_f (by simp [-List.getD_eq_getElem?_getD, h1])]
      simp only [Option.bind]
      rw [gd_f (by simp [-List.getD_eq_getElem?_getD, h1])]
      simp [-List.getD_eq_getElem?_getD, h1, this]
theorem ref_Rights_eq (l : List THold) (hl : l.length ≤ 1000000000000000) : usufructref06_Rights l = some (decide (Rts l)) := by
  unfold usufructref06_Rights
  rw [loop_all l.length hl (Link l) false () (fun i hi => ?_) (by simp [-List.getD_eq_getElem?_getD, usufructref06_Rights_L1])]
  · by_cases h : ∀ i, i < l.length → Link l i
    · rw [if_pos h]
      have := (links_iff l).1 h
      refine sd ?_
      simp only [Rts, this.1, this.2, true_and, decide_eq_true_eq]
      exact ⟨fun h => ⟨this.1, by omega⟩, fun h => by omega⟩
    · rw [if_neg h]
      have : ¬ Rts l := fun h2 => h ((links_iff l).2 ⟨h2.1, h2.2.1⟩)
      simp [-List.getD_eq_getElem?_getD, this]
  · simp only [usufructref06_Rights_L1, ref_Right_eq, six_of hi, letM_eq, Option.bind]
    rw [if_pos (by simp; omega)]
    simp only [wr_succ (show i < 1000000000000000 by omega)]
    by_cases h1 : HOk (l.getD i default)
    · by_cases h0 : 0 < i
      · rw [gd_t (by simp [-List.getD_eq_getElem?_getD, h1, h0]), wr_pred h0 (by omega), six_of (by omega)]
        simp only [Option.bind]
        rw [gd_t (by simp [-List.getD_eq_getElem?_getD, h1, h0])]
        simp only [Option.bind]
        rw [gd_t (by simp [-List.getD_eq_getElem?_getD, h1, h0]), ref_Ahead_eq]
        simp only [Option.bind, Link, h1, h0, true_and]
        by_cases h2 : HLt (l.getD (i - 1) default) (l.getD i default) <;> simp [-List.getD_eq_getElem?_getD, h2, h0]
      · obtain rfl : i = 0 := by omega
        simp [-List.getD_eq_getElem?_getD, h1, Link]
    · have : ¬ Link l i := fun h => h1 h.1
      rw [gd_f (by simp [-List.getD_eq_getElem?_getD, h1])]
      simp only [Option.bind]
      rw [gd_f (by simp [-List.getD_eq_getElem?_getD, h1])]
      simp only [Option.bind]
      rw [gd_f (by simp [-List.getD_eq_getElem?_getD, h1])]
      simp [-List.getD_eq_getElem?_getD, h1, this]

end Go.Av
