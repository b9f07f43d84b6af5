/- The plain law: what the mirrors answer. -/
import Derived.Test.YtefanbolbeplmaaGreatAvBarrierDecidesM1
set_option linter.unusedSimpArgs false
set_option linter.unusedVariables false
set_option linter.unusedSectionVars false
namespace Go.Av
theorem fuel_big : 1000000000000000 < fuel := by decide
theorem wr_id {n : Int} (h : -9223372036854775808 ≤ n ∧ n ≤ 9223372036854775807) : wr .i64 n = n := wrap_id h.1 h.2
theorem wr_succ {i : Nat} (h : i < 1000000000000000) : wr .i64 ((i : Int) + 1) = ((i + 1 : Nat) : Int) := by rw [wr_id (by omega)]; omega
theorem six_of {α : Type} {xs : List α} {i : Nat} (h : i < xs.length) : six xs (i : Int) = some i := by simp [six]; omega
theorem app_of {α : Type} {b : Nat} {xs ys : List α} (h : (xs.length + ys.length) * b ≤ 140737488355328) : app b xs ys = some (xs ++ ys) := by simp [app, h]
@[simp] theorem gd_t {α : Type} [Inhabited α] {p : Prop} [Decidable p] {m : Option α} (h : p) : gd p m = m := by simp [gd, h]
@[simp] theorem gd_f {α : Type} [Inhabited α] {p : Prop} [Decidable p] {m : Option α} (h : ¬ p) : gd p m = some default := by simp [gd, h]
@[simp] theorem letM_eq {α β : Type} (e : α) (k : α → Option β) : letM e k = k e := rfl
@[simp] theorem onS_l {α β γ : Type} (f : α → Option γ) (g : β → Option γ) (a : α) : onS f g (.inl a) = f a := rfl
@[simp] theorem onS_r {α β γ : Type} (f : α → Option γ) (g : β → Option γ) (b : β) : onS f g (.inr b) = g b := rfl
theorem fix_of {k i : Nat} (h : i < k) : fix_ k (i : Int) = some ⟨i, h⟩ := by simp [fix_]; omega

section
variable {σ ρ : Type} {body : σ → Option (σ ⊕ ρ)}
theorem loopM_ind' (I : Nat → σ → Prop) (N : Nat) (Q : ρ → Prop) (step : ∀ i s, i < N → I i s → (∃ t, body s = some (.inl t) ∧ I (i + 1) t) ∨ (∃ r, body s = some (.inr r) ∧ Q r)) (fin : ∀ s, I N s → ∃ r, body s = some (.inr r) ∧ Q r) :
  ∀ (k i : Nat) (s : σ), i + k = N → I i s → ∀ n, k < n → ∃ r, loopM body n s = some r ∧ Q r
 | k, i, s, hk, hI, 0, hn => by omega
 | 0, i, s, hk, hI, n + 1, hn => by
  obtain rfl : i = N := by omega
  obtain ⟨r, h1, h2⟩ := fin s hI
  exact ⟨r, by simp [loopM, h1], h2⟩
 | k + 1, i, s, hk, hI, n + 1, hn => by
  rcases step i s (by omega) hI with ⟨t, h1, h2⟩ | ⟨r, h1, h2⟩
  ·obtain ⟨r, h3, h4⟩ := loopM_ind' I N Q step fin k (i + 1) t (by omega) h2 n (by omega)
   exact ⟨r, by simp [loopM, h1, h3], h4⟩
  ·exact ⟨r, by simp [loopM, h1], h2⟩
theorem loopM_ind (I : Nat → σ → Prop) (N : Nat) (hN : N ≤ 1000000000000000) (Q : ρ → Prop) (step : ∀ i s, i < N → I i s → (∃ t, body s = some (.inl t) ∧ I (i + 1) t) ∨ (∃ r, body s = some (.inr r) ∧ Q r))
  (fin : ∀ s, I N s → ∃ r, body s = some (.inr r) ∧ Q r) {s0 : σ} (h0 : I 0 s0) : ∃ r, loopM body fuel s0 = some r ∧ Q r :=
 loopM_ind' I N Q step fin N 0 s0 (by omega) h0 fuel (by have := fuel_big; omega)
theorem loopM_eq (I : Nat → σ → Prop) (N : Nat) (hN : N ≤ 1000000000000000) (q : ρ) (step : ∀ i s, i < N → I i s → (∃ t, body s = some (.inl t) ∧ I (i + 1) t) ∨ (body s = some (.inr q)))
  (fin : ∀ s, I N s → body s = some (.inr q)) {s0 : σ} (h0 : I 0 s0) : loopM body fuel s0 = some q := by
 obtain ⟨r, h1, rfl⟩ := loopM_ind I N hN (fun r => r = q) (fun i s hi hI => (step i s hi hI).imp id fun h => ⟨q, h, rfl⟩) (fun s hI => ⟨q, fin s hI, rfl⟩) h0
 exact h1
end

/-- A loop over numbers that stops at the first one that is told to. -/
theorem loop_find {ρ : Type} {body : Int → Option (Int ⊕ ρ)} (N : Nat) (hN : N ≤ 1000000000000000) (bad : Nat → Option ρ) (fin : ρ) (hb : ∀ i, i < N → body (i : Int) = some (match bad i with | some r => .inr r | none => .inl (((i + 1 : Nat)) : Int)))
  (hf : body (N : Int) = some (.inr fin)) : loopM body fuel 0 = some (((List.range N).findSome? bad).getD fin) := by
 refine loopM_eq (fun i s => s = (i : Int) ∧ ∀ j, j < i → bad j = none) N hN _ ?_ ?_ ⟨rfl, fun j h => by omega⟩
 ·rintro i s hi ⟨rfl, hI⟩
  cases hbi : bad i with
  | none =>
   refine .inl ⟨_, by rw [hb i hi, hbi], rfl, fun j hj => ?_⟩
   rcases Nat.lt_succ_iff_lt_or_eq.1 hj with h | rfl
   ·exact hI j h
   ·exact hbi
  | some r =>
   refine .inr ?_
   rw [hb i hi, hbi]
   have : (List.range N).findSome? bad = some r := by
    rw [show N = i + (N - i) from by omega, List.range_add, List.findSome?_append]
    have h1 : (List.range i).findSome? bad = none := by
     rw [List.findSome?_eq_none_iff]; intro x hx; exact hI x (by simpa using hx)
    rw [h1]
    obtain ⟨m, hm⟩ : ∃ m, N - i = m + 1 := ⟨N - i - 1, by omega⟩
    rw [hm, List.range_succ_eq_map]
    simp [hbi]
   simp [this]
 ·rintro s ⟨rfl, hI⟩
  rw [hf]
  have : (List.range N).findSome? bad = none := by rw [List.findSome?_eq_none_iff]; intro x hx; exact hI x (by simpa using hx)
  simp [this]

theorem foldl_range_list {α σ : Type} (xs : List α) (d : α) (g : σ → α → σ) (s0 : σ) : (List.range xs.length).foldl (fun s i => g s (xs.getD i d)) s0 = xs.foldl g s0 := by
 have : (List.range xs.length).map (fun i => xs.getD i d) = xs := by
  apply List.ext_getElem (by simp)
  intro i h1 h2
  simp [List.getD, h2]
 conv => rhs; rw [← this]
 rw [List.foldl_map]

/-- A loop over numbers that carries something along. -/
theorem loop_fold {σ ρ : Type} {body : Int × σ → Option ((Int × σ) ⊕ ρ)} (N : Nat) (hN : N ≤ 1000000000000000) (f : σ → Nat → σ) (out : σ → ρ) (J : Nat → σ → Prop) {s0 : σ} (h0 : J 0 s0)
  (hb : ∀ i s, i < N → J i s → body ((i : Int), s) = some (.inl ((((i + 1 : Nat)) : Int), f s i)) ∧ J (i + 1) (f s i)) (hf : ∀ s, J N s → body ((N : Int), s) = some (.inr (out s))) : loopM body fuel (0, s0) = some (out ((List.range N).foldl f s0)) ∧ J N ((List.range N).foldl f s0) := by
 have key : ∀ k, k ≤ N → J k ((List.range k).foldl f s0) := by
  intro k
  induction k with
  | zero => intro _; exact h0
  | succ k ih =>
   intro hk
   rw [List.range_succ, List.foldl_append]
   exact (hb k _ (by omega) (ih (by omega))).2
 refine ⟨?_, key N (Nat.le_refl _)⟩
 refine loopM_eq (fun i s => s = ((i : Int), (List.range i).foldl f s0)) N hN _ ?_ ?_ rfl
 ·rintro i s hi rfl
  refine .inl ⟨_, (hb i _ hi (key i (by omega))).1, ?_⟩
  rw [List.range_succ, List.foldl_append]; rfl
 ·rintro s rfl
  exact hf _ (key N (Nat.le_refl _))
/-- A loop over numbers that stops at the first one that is not good. -/
theorem loop_all {ρ ξ : Type} {body : Int → Option (Int ⊕ (ξ ⊕ ρ))} (N : Nat) (hN : N ≤ 1000000000000000) (good : Nat → Prop) [DecidablePred good] (r : ρ) (x : ξ)
  (hb : ∀ i, i < N → body (i : Int) = some (if good i then .inl (((i + 1 : Nat)) : Int) else .inr (.inr r))) (hf : body (N : Int) = some (.inr (.inl x))) :
  loopM body fuel 0 = some (if ∀ i, i < N → good i then .inl x else .inr r) := by
 have h := loop_find (body := body) N hN (fun i => if good i then none else some (.inr r)) (.inl x) (fun i hi => by rw [hb i hi]; by_cases h : good i <;> simp [-List.getD_eq_getElem?_getD, h]) hf
 rw [h]
 by_cases hg : ∀ i, i < N → good i
 ·have : (List.range N).findSome? (fun i => if good i then none else some (.inr r : ξ ⊕ ρ)) = none := by
   rw [List.findSome?_eq_none_iff]; intro i hi; simp [-List.getD_eq_getElem?_getD, hg i (by simpa using hi)]
  rw [this]; simp [-List.getD_eq_getElem?_getD, if_pos hg]
 ·obtain ⟨v, hv⟩ : ∃ v, (List.range N).findSome? (fun i => if good i then none else some (.inr r : ξ ⊕ ρ)) = some v := by
   cases hc : (List.range N).findSome? (fun i => if good i then none else some (.inr r : ξ ⊕ ρ)) with
   | some v => exact ⟨v, rfl⟩
   | none =>
    rw [List.findSome?_eq_none_iff] at hc
    exact (hg fun i hi => by have := hc i (by simpa using hi); by_cases h : good i; exact h; simp [-List.getD_eq_getElem?_getD, h] at this).elim
  obtain ⟨i, hi, hv2⟩ := List.exists_of_findSome?_eq_some hv
  rw [hv, if_neg hg]
  by_cases h : good i <;> simp [-List.getD_eq_getElem?_getD, h] at hv2
  simp [-List.getD_eq_getElem?_getD, hv2]

def IsN (n : Int) : Prop := -1099511627776 ≤ n ∧ n ≤ 1099511627776
instance (n : Int) : Decidable (IsN n) := by unfold IsN; infer_instance
theorem sd {b : Bool} {P : Prop} [Decidable P] (h : b = true ↔ P) : some b = some (decide P) := by rw [show b = decide P from Bool.eq_iff_iff.2 (by simpa using h)]
theorem num_Is_eq (n : Int) : num_Is n = some (decide (IsN n)) := sd (by simp [-List.getD_eq_getElem?_getD, IsN])
theorem ref_Is_eq (n : Int) : ur01_Is n = some (decide (IsN n)) := sd (by simp [-List.getD_eq_getElem?_getD, IsN, and_comm])

theorem gd_and {p b : Bool} : gd (p = true) (some b) = some (if p = true then b else false) := by cases p <;> rfl
theorem wr_pred {i : Nat} (h0 : 0 < i) (h : i < 1000000000000000) : wr .i64 ((i : Int) - 1) = ((i - 1 : Nat) : Int) := by rw [wr_id (by omega)]; omega
def Cnt (n : Int) : Prop := 0 ≤ n ∧ n ≤ 1099511627776
instance (n : Int) : Decidable (Cnt n) := by unfold Cnt; infer_instance
def HOk (h : THold) : Prop := 0 ≤ h.Replica ∧ h.Replica < 16 ∧ 1 ≤ h.Number ∧ h.Number ≤ 1099511627776 ∧ Cnt h.Amount ∧ Cnt h.Due ∧ 1 ≤ h.State ∧ h.State ≤ 3
instance (h : THold) : Decidable (HOk h) := by unfold HOk; infer_instance
theorem hold_count_eq (n : Int) : hold_count n = some (decide (Cnt n)) := by
 unfold hold_count
 rw [num_Is_eq]
 by_cases h : 0 ≤ n
 ·rw [gd_t (by simp [h])]; refine sd ?_; simp only [Bool.and_eq_true, decide_eq_true_eq]; unfold IsN Cnt; omega
 ·rw [gd_f (by simp [-List.getD_eq_getElem?_getD, h])]; refine sd ?_; simp [-List.getD_eq_getElem?_getD, h, Cnt]
theorem ref_counts_eq (n : Int) : ur06_counts n = some (decide (Cnt n)) := by
 unfold ur06_counts
 rw [ref_Is_eq]
 by_cases h : 0 ≤ n
 ·rw [gd_t (by simp [h])]; refine sd ?_; simp only [Bool.and_eq_true, decide_eq_true_eq]; unfold IsN Cnt; omega
 ·rw [gd_f (by simp [-List.getD_eq_getElem?_getD, h])]; refine sd ?_; simp [-List.getD_eq_getElem?_getD, h, Cnt]
theorem hold_Right_eq (h : THold) : hold_Right h = some (decide (HOk h)) := by
 unfold hold_Right
 simp only [num_Is_eq, hold_count_eq, letM_eq, gd_and, Option.bind]
 refine sd ?_
 simp only [Bool.and_eq_true, Bool.if_false_right, decide_eq_true_eq]
 first | unfold HOk IsN Cnt | unfold HOk Cnt
 omega
theorem ref_Right_eq (h : THold) : ur06_Right h = some (decide (HOk h)) := by
 unfold ur06_Right
 simp only [ref_counts_eq, letM_eq, gd_and, Option.bind]
 refine sd ?_
 simp only [Bool.and_eq_true, Bool.if_false_right, decide_eq_true_eq]
 first | unfold HOk IsN Cnt | unfold HOk Cnt
 omega

def HLt (a b : THold) : Prop := a.Replica < b.Replica ∨ (a.Replica = b.Replica ∧ a.Number < b.Number)
instance (a b : THold) : Decidable (HLt a b) := by unfold HLt; infer_instance
theorem HLt.trans {a b c : THold} (h : HLt a b) (k : HLt b c) : HLt a c := by unfold HLt at *; omega
theorem cmp_ge (a b : THold) : 0 ≤ holdCmp a b ↔ ¬ HLt a b := by
 unfold holdCmp HLt
 by_cases h : a.Replica = b.Replica
 ·by_cases h1 : a.Number = b.Number
  ·simp [-List.getD_eq_getElem?_getD, h, h1]
  ·by_cases h2 : a.Number < b.Number <;> simp [-List.getD_eq_getElem?_getD, h, h1, h2]
 ·by_cases h2 : a.Replica < b.Replica <;> simp [-List.getD_eq_getElem?_getD, h, h2]
theorem ref_Ahead_eq (a b : THold) : ur06_Ahead a b = some (decide (HLt a b)) := sd (by simp [-List.getD_eq_getElem?_getD, HLt])

def Rts (l : List THold) : Prop := (∀ h ∈ l, HOk h) ∧ l.Pairwise HLt ∧ l.length ≤ 16
instance (l : List THold) : Decidable (Rts l) := by unfold Rts; infer_instance
def Link (l : List THold) (i : Nat) : Prop := HOk (l.getD i default) ∧ (0 < i → HLt (l.getD (i - 1) default) (l.getD i default))
instance (l : List THold) : DecidablePred (Link l) := fun i => by unfold Link; infer_instance
theorem links_iff (l : List THold) : (∀ i, i < l.length → Link l i) ↔ (∀ h ∈ l, HOk h) ∧ l.Pairwise HLt := by
 constructor
 ·intro h
  refine ⟨fun x hx => ?_, ?_⟩
  ·obtain ⟨i, hi, rfl⟩ := List.getElem_of_mem hx
   simpa [List.getD, hi] using (h i hi).1
  ·rw [List.pairwise_iff_getElem]
   intro i j hi hj hij
   induction j with
   | zero => omega
   | succ j ih =>
    have h1 := (h (j + 1) hj).2 (by omega)
    have e1 : l.getD (j + 1 - 1) default = l[j] := by simp [List.getD, show j < l.length by omega]
    have e2 : l.getD (j + 1) default = l[j + 1] := by simp [List.getD, hj]
    rw [e1, e2] at h1
    rcases Nat.lt_succ_iff_lt_or_eq.1 hij with h2 | rfl
    ·exact (ih (by omega) h2).trans h1
    ·exact h1
 ·rintro ⟨h1, h2⟩ i hi
  rw [List.pairwise_iff_getElem] at h2
  refine ⟨by rw [show l.getD i default = l[i] by simp [List.getD, hi]]; exact h1 _ (List.getElem_mem hi), fun h0 => ?_⟩
  rw [show l.getD i default = l[i] by simp [List.getD, hi], show l.getD (i - 1) default = l[i - 1] by simp [List.getD, show i - 1 < l.length by omega]]
  exact h2 _ _ (by omega) hi (by omega)

theorem hold_Rights_eq (l : List THold) (hl : l.length ≤ 1000000000000000) : hold_Rights l = some (decide (Rts l)) := by
 unfold hold_Rights
 rw [loop_all l.length hl (Link l) false () (fun i hi => ?_) (by simp [-List.getD_eq_getElem?_getD, hold_Rights_L1])]
 ·by_cases h : ∀ i, i < l.length → Link l i
  ·rw [if_pos h]
   have := (links_iff l).1 h
   refine sd ?_
   simp only [Rts, this.1, this.2, true_and, decide_eq_true_eq]
   exact ⟨fun h => ⟨this.1, by omega⟩, fun h => by omega⟩
  ·rw [if_neg h]
   have : ¬ Rts l := fun h2 => h ((links_iff l).2 ⟨h2.1, h2.2.1⟩)
   simp [-List.getD_eq_getElem?_getD, this]
 ·simp only [hold_Rights_L1, hold_Right_eq, six_of hi, letM_eq, Option.bind]
  rw [if_pos (by simp; omega)]
  simp only [wr_succ (show i < 1000000000000000 by omega)]
  by_cases h1 : HOk (l.getD i default)
  ·by_cases h0 : 0 < i
   ·rw [gd_t (by simp [-List.getD_eq_getElem?_getD, h1, h0]), wr_pred h0 (by omega), six_of (by omega)]
    simp only [Option.bind]
    rw [gd_t (by simp [-List.getD_eq_getElem?_getD, h1, h0]), hold_compare_eq]
    simp only [Option.bind, cmp_ge, Link, h1, h0, true_and]
    by_cases h2 : HLt (l.getD (i - 1) default) (l.getD i default) <;> simp [-List.getD_eq_getElem?_getD, h2, h0]
   ·obtain rfl : i = 0 := by omega
    simp [-List.getD_eq_getElem?_getD, h1, Link]
  ·have : ¬ Link l i := fun h => h1 h.1
   rw [gd_f (by simp [-List.getD_eq_getElem?_getD, h1])]
   simp only [Option.bind]
   rw [gd_f (by simp [-List.getD_eq_getElem?_getD, h1])]
   simp [-List.getD_eq_getElem?_getD, h1, this]
theorem ref_Rights_eq (l : List THold) (hl : l.length ≤ 1000000000000000) : ur06_Rights l = some (decide (Rts l)) := by
 unfold ur06_Rights
 rw [loop_all l.length hl (Link l) false () (fun i hi => ?_) (by simp [-List.getD_eq_getElem?_getD, ur06_Rights_L1])]
 ·by_cases h : ∀ i, i < l.length → Link l i
  ·rw [if_pos h]
   have := (links_iff l).1 h
   refine sd ?_
   simp only [Rts, this.1, this.2, true_and, decide_eq_true_eq]
   exact ⟨fun h => ⟨this.1, by omega⟩, fun h => by omega⟩
  ·rw [if_neg h]
   have : ¬ Rts l := fun h2 => h ((links_iff l).2 ⟨h2.1, h2.2.1⟩)
   simp [-List.getD_eq_getElem?_getD, this]
 ·simp only [ur06_Rights_L1, ref_Right_eq, six_of hi, letM_eq, Option.bind]
  rw [if_pos (by simp; omega)]
  simp only [wr_succ (show i < 1000000000000000 by omega)]
  by_cases h1 : HOk (l.getD i default)
  ·by_cases h0 : 0 < i
   ·rw [gd_t (by simp [-List.getD_eq_getElem?_getD, h1, h0]), wr_pred h0 (by omega), six_of (by omega)]
    simp only [Option.bind]
    rw [gd_t (by simp [-List.getD_eq_getElem?_getD, h1, h0])]
    simp only [Option.bind]
    rw [gd_t (by simp [-List.getD_eq_getElem?_getD, h1, h0]), ref_Ahead_eq]
    simp only [Option.bind, Link, h1, h0, true_and]
    by_cases h2 : HLt (l.getD (i - 1) default) (l.getD i default) <;> simp [-List.getD_eq_getElem?_getD, h2, h0]
   ·obtain rfl : i = 0 := by omega
    simp [-List.getD_eq_getElem?_getD, h1, Link]
  ·have : ¬ Link l i := fun h => h1 h.1
   rw [gd_f (by simp [-List.getD_eq_getElem?_getD, h1])]
   simp only [Option.bind]
   rw [gd_f (by simp [-List.getD_eq_getElem?_getD, h1])]
   simp only [Option.bind]
   rw [gd_f (by simp [-List.getD_eq_getElem?_getD, h1])]
   simp [-List.getD_eq_getElem?_getD, h1, this]
def sumStep (r : Int) (s : Int) (h : THold) : Int := if (decide (h.Replica = r) && decide (h.State = 1)) = true then min (wr .i64 (s + h.Amount)) 1099511627776 else s
def SumS (l : List THold) (r : Int) : Int := l.foldl (sumStep r) 0
theorem loop_first {α ξ ρ : Type} [Inhabited α] {body : Int → Option (Int ⊕ (ξ ⊕ ρ))} (l : List α) (hl : l.length ≤ 1000000000000000) (p : α → Bool) (q : Nat → ρ) (x : ξ)
  (hb : ∀ i, i < l.length → body (i : Int) = some (if p (l.getD i default) = true then .inr (.inr (q i)) else .inl (((i + 1 : Nat)) : Int))) (hf : body (l.length : Int) = some (.inr (.inl x))) :
  loopM body fuel 0 = some (match l.findIdx? p with | some i => .inr (q i) | none => .inl x) := by
 refine loopM_eq (fun i s => s = (i : Int) ∧ ∀ j, j < i → p (l.getD j default) = false) l.length hl _ ?_ ?_ ⟨rfl, fun j h => by omega⟩
 ·rintro i s hi ⟨rfl, hI⟩
  rw [hb i hi]
  by_cases h : p (l.getD i default) = true
  ·refine .inr ?_
   rw [if_pos h]
   have : l.findIdx? p = some i := by
    rw [List.findIdx?_eq_some_iff_getElem]
    refine ⟨hi, by simpa [List.getD, hi] using h, fun j hj => ?_⟩
    have := hI j hj
    simp [List.getD, show j < l.length by omega] at this
    simp [this]
   rw [this]
  ·refine .inl ⟨_, by rw [if_neg h], rfl, fun j hj => ?_⟩
   rcases Nat.lt_succ_iff_lt_or_eq.1 hj with h2 | rfl
   ·exact hI j h2
   ·simpa using h
 ·rintro s ⟨rfl, hI⟩
  rw [hf]
  have : l.findIdx? p = none := by
   rw [List.findIdx?_eq_none_iff]
   intro y hy
   obtain ⟨i, hi, rfl⟩ := List.getElem_of_mem hy
   simpa [List.getD, hi] using hI i hi
  rw [this]

theorem mid_set {α : Type} [Inhabited α] (f : α → α) (l : List α) (i : Nat) (hi : i < l.length) : ((l.take i).map f ++ l.drop i).set i (f (l.getD i default)) = (l.take (i + 1)).map f ++ l.drop (i + 1) := by
 have hd : l.drop i = l[i] :: l.drop (i + 1) := List.drop_eq_getElem_cons hi
 have hn : ((l.take i).map f).length = i := by simp; omega
 rw [hd, List.set_append]
 simp only [hn, Nat.lt_irrefl, if_false, Nat.sub_self, List.set_cons_zero]
 rw [List.take_succ_eq_append_getElem hi, List.map_append, List.append_assoc, show l.getD i default = l[i] by simp [List.getD, hi]]
 rfl
def due (r t : Int) (h : THold) : Bool := decide (h.Replica = r) && decide (h.State = 1) && decide (h.Due < t)
def ex (r t : Int) (h : THold) : THold := if due r t h = true then { h with State := 3 } else h
def isK (r n : Int) (h : THold) : Bool := decide (h.Replica = r) && decide (h.Number = n)
def EndS (l : List THold) (r n st : Int) : List THold × Int × Int :=
 if Rts l ∧ (st = 2 ∨ st = 3) then (match l.findIdx? (isK r n) with
  | none => ([], 0, 10)
  | some i => if (l.getD i default).State = 1 then (l.set i { l.getD i default with State := st }, (l.getD i default).Amount, 0) else ([], 0, 12))
 else ([], 0, 1)
def putS : List THold → THold → List THold
 | [], x => [x]
 | h :: t, x => if HLt h x then h :: putS t x else x :: h :: t
theorem putS_length (x : THold) : ∀ l : List THold, (putS l x).length = l.length + 1
 | [] => rfl
 | h :: t => by unfold putS; split <;> simp [putS_length x t]
theorem putS_perm (x : THold) : ∀ l : List THold, (putS l x).Perm (x :: l)
 | [] => .refl _
 | h :: t => by
  unfold putS
  split
  ·exact ((putS_perm x t).cons h).trans (.swap x h t)
  ·exact .refl _
theorem putS_mem {x y : THold} {l : List THold} : y ∈ putS l x ↔ y = x ∨ y ∈ l := by rw [(putS_perm x l).mem_iff, List.mem_cons]
/-- Another key. -/
def Off (h x : THold) : Prop := ¬ (h.Replica = x.Replica ∧ h.Number = x.Number)
theorem HLt.off {a b : THold} (h : HLt a b) : Off a b ∧ Off b a := by unfold HLt Off at *; omega
theorem lt_or {a b : THold} (h : Off a b) (k : ¬ HLt a b) : HLt b a := by unfold HLt Off at *; omega
theorem putS_sorted (x : THold) : ∀ l : List THold, l.Pairwise HLt → (∀ h ∈ l, Off h x) → (putS l x).Pairwise HLt
 | [], _, _ => by simp [putS]
 | h :: t, hl, ho => by
  unfold putS
  rw [List.pairwise_cons] at hl
  split
  ·rename_i hx
   rw [List.pairwise_cons]
   refine ⟨fun y hy => ?_, putS_sorted x t hl.2 fun y hy => ho y (by simp [hy])⟩
   rcases putS_mem.1 hy with rfl | hy
   ·exact hx
   ·exact hl.1 y hy
  ·rename_i hx
   have h1 := lt_or (ho h (by simp)) hx
   rw [List.pairwise_cons, List.pairwise_cons]
   refine ⟨fun y hy => ?_, hl⟩
   rcases List.mem_cons.1 hy with rfl | hy
   ·exact h1
   ·exact h1.trans (hl.1 y hy)
theorem sorted_tri {l : List THold} (h : l.Pairwise HLt) {a b : THold} (ha : a ∈ l) (hb : b ∈ l) : a = b ∨ HLt a b ∨ HLt b a := by
 obtain ⟨i, hi, rfl⟩ := List.getElem_of_mem ha
 obtain ⟨j, hj, rfl⟩ := List.getElem_of_mem hb
 rw [List.pairwise_iff_getElem] at h
 rcases Nat.lt_trichotomy i j with h1 | rfl | h1
 ·exact .inr (.inl (h _ _ hi hj h1))
 ·exact .inl rfl
 ·exact .inr (.inr (h _ _ hj hi h1))
/-- What is sorted is told by its order. -/
theorem sort_uniq {l m : List THold} (hp : l.Perm m) (hm : m.Pairwise HLt) : sortF holdCmp l = m := by
 refine List.Perm.eq_of_pairwise (le := fun a b => ¬ HLt b a) ?_ ?_ ?_ ((sortF_perm holdCmp_swo l).trans hp)
 ·intro a b ha hb h1 h2
  rcases sorted_tri hm (hp.mem_iff.1 ((sortF_perm holdCmp_swo l).mem_iff.1 ha)) hb with h | h | h
  ·exact h
  ·exact (h2 h).elim
  ·exact (h1 h).elim
 ·exact (sortF_sorted holdCmp_swo l).imp fun {a b} h => by rw [holdCmp_lt] at h; simpa [HLt] using h
 ·exact hm.imp fun {a b} h k => by unfold HLt at *; omega

theorem putS_split (x : THold) : ∀ l : List THold, l.take (l.findIdx fun h => !decide (HLt h x)) ++ ([x] ++ l.drop (l.findIdx fun h => !decide (HLt h x))) = putS l x
 | [] => rfl
 | h :: t => by
  unfold putS
  rw [List.findIdx_cons]
  by_cases hx : HLt h x
  ·simp only [hx, decide_true, Bool.not_true, cond_false, if_true, List.take_succ_cons, List.drop_succ_cons]
   rw [List.cons_append, putS_split x t]
  ·simp [hx]
theorem find_loop (l : List THold) (x : THold) (hl : l.length ≤ 1000000000000) {body : Int → Option (Int ⊕ Int)} (hb : ∀ i, i < l.length → body (i : Int) = some (if HLt (l.getD i default) x then .inl (((i + 1 : Nat)) : Int) else .inr (i : Int)))
  (hf : body (l.length : Int) = some (.inr (l.length : Int))) : loopM body fuel 0 = some ((l.findIdx fun h => !decide (HLt h x) : Nat) : Int) := by
 refine loopM_eq (fun i s => s = (i : Int) ∧ i ≤ (l.findIdx fun h => !decide (HLt h x))) l.length (by omega) _ ?_ ?_ ⟨rfl, Nat.zero_le _⟩
 ·rintro i s hi ⟨rfl, hI⟩
  rw [hb i hi]
  by_cases h : HLt (l.getD i default) x
  ·refine .inl ⟨_, by rw [if_pos h], rfl, ?_⟩
   rcases Nat.lt_or_eq_of_le hI with h1 | h1
   ·exact h1
   ·have := @List.findIdx_getElem _ (fun h => !decide (HLt h x)) l (by omega)
    simp only [← h1] at this
    rw [List.getD, List.getElem?_eq_getElem hi] at h
    simp [h] at this
    exact (this h).elim
  ·refine .inr ?_
   rw [if_neg h]
   have : ¬ i < (l.findIdx fun h => !decide (HLt h x)) := fun h1 => by
    have := List.not_of_lt_findIdx h1
    rw [List.getD, List.getElem?_eq_getElem hi] at h
    simp at this
    exact h this
   rw [show (l.findIdx fun h => !decide (HLt h x)) = i by omega]
 ·rintro s ⟨rfl, hI⟩
  rw [hf]
  have := @List.findIdx_le_length _ (fun h => !decide (HLt h x)) l
  rw [show (l.findIdx fun h => !decide (HLt h x)) = l.length by omega]
theorem Put_own_eq (l : List THold) (x : THold) (hl : l.length ≤ 1000000000000) : ur06_Put_own l x = some (putS l x) := by
 have hk := @List.findIdx_le_length _ (fun h => !decide (HLt h x)) l
 unfold ur06_Put_own
 rw [find_loop l x hl (fun i hi => ?_) (by simp [ur06_Put_own_L1])]
 ·rw [← putS_split x l]
  generalize (l.findIdx fun h => !decide (HLt h x)) = k at hk
  have e1 : ssl l 0 (k : Int) = some (l.take k) := by simp [ssl]; omega
  have e2 : ssl l (k : Int) (l.length : Int) = some (l.drop k) := by simp [ssl]; omega
  simp only [e1, e2, Option.bind]
  rw [app_of (by simp; omega)]
  simp only [List.nil_append]
  rw [app_of (by simp; omega)]
  simp only []
  rw [app_of (by simp; omega)]
  simp only [List.append_assoc]
 ·simp only [ur06_Put_own_L1]
  rw [gd_t (by simp; omega), six_of hi]
  simp only [Option.bind]
  rw [gd_t (by simp; omega), ref_Ahead_eq]
  simp only [Option.bind, wr_succ (show i < 1000000000000000 by omega)]
  by_cases h : HLt (l.getD i default) x
  ·rw [if_pos (by simp only [h, decide_true, Bool.and_true, decide_eq_true_eq]; omega), if_pos h]
  ·rw [if_neg (by simp only [h, decide_false, Bool.and_false]; exact Bool.false_ne_true), if_neg h]
def val (r : Int) (h : THold) : Int := if h.Replica = r ∧ h.State = 1 then h.Amount else 0
def foldO {α σ : Type} (f : σ → α → Option σ) : σ → List α → Option σ
 | s, [] => some s
 | s, x :: t => match f s x with
  | none => none
  | some s' => foldO f s' t
theorem loop_foldO' {α σ ξ ρ : Type} [Inhabited α] (l : List α) {body : Int × σ → Option ((Int × σ) ⊕ (ξ ⊕ ρ))} (f : σ → α → Option σ) (out : σ → ξ) (e : ρ) (J : Nat → σ → Prop)
  (hb : ∀ i s, i < l.length → J i s → body ((i : Int), s) = some (match f s (l.getD i default) with | some s' => .inl ((((i + 1 : Nat)) : Int), s') | none => .inr (.inr e)) ∧ ∀ s', f s (l.getD i default) = some s' → J (i + 1) s')
  (hf : ∀ s, J l.length s → body ((l.length : Int), s) = some (.inr (.inl (out s)))) :
  ∀ (k i : Nat) (s : σ), i + k = l.length → J i s → ∀ n, k < n → loopM body n ((i : Int), s) = some (match foldO f s (l.drop i) with | some s => .inl (out s) | none => .inr e) ∧ ∀ s', foldO f s (l.drop i) = some s' → J l.length s'
 | k, i, s, hk, hI, 0, hn => by omega
 | 0, i, s, hk, hI, n + 1, hn => by
  obtain rfl : i = l.length := by omega
  rw [List.drop_length]
  refine ⟨by simp only [loopM, hf s hI, foldO], fun s' h => ?_⟩
  simp only [foldO, Option.some.injEq] at h
  exact h ▸ hI
 | k + 1, i, s, hk, hI, n + 1, hn => by
  have hi : i < l.length := by omega
  obtain ⟨h1, h2⟩ := hb i s hi hI
  have hd : l.drop i = l.getD i default :: l.drop (i + 1) := by rw [List.drop_eq_getElem_cons hi]; simp [List.getD, hi]
  rw [hd]
  simp only [loopM, h1, foldO]
  cases hc : f s (l.getD i default) with
  | none => exact ⟨rfl, fun s' h => by cases h⟩
  | some s' => exact loop_foldO' l f out e J hb hf k (i + 1) s' (by omega) (h2 s' hc) n (by omega)
theorem loop_foldO {α σ ξ ρ : Type} [Inhabited α] (l : List α) (hl : l.length ≤ 1000000000000000) {body : Int × σ → Option ((Int × σ) ⊕ (ξ ⊕ ρ))} (f : σ → α → Option σ) (out : σ → ξ) (e : ρ) (J : Nat → σ → Prop) {s0 : σ} (h0 : J 0 s0)
  (hb : ∀ i s, i < l.length → J i s → body ((i : Int), s) = some (match f s (l.getD i default) with | some s' => .inl ((((i + 1 : Nat)) : Int), s') | none => .inr (.inr e)) ∧ ∀ s', f s (l.getD i default) = some s' → J (i + 1) s')
  (hf : ∀ s, J l.length s → body ((l.length : Int), s) = some (.inr (.inl (out s)))) :
  loopM body fuel (0, s0) = some (match foldO f s0 l with | some s => .inl (out s) | none => .inr e) ∧ ∀ s', foldO f s0 l = some s' → J l.length s' :=
 loop_foldO' l f out e J hb hf l.length 0 s0 (by omega) h0 fuel (by have := fuel_big; omega)

def bump (x h : THold) : THold := { x with State := max x.State h.State }
def upd (l : List THold) (h : THold) : List THold := l.map fun x => if isK h.Replica h.Number x = true then bump x h else x
def fits (x h : THold) : Prop := x.Amount = h.Amount ∧ x.Due = h.Due
instance (x h : THold) : Decidable (fits x h) := by unfold fits; infer_instance
def lookH (l : List THold) (r n : Int) : Option THold := l.find? (isK r n)
def jstep (ins : List THold → THold → List THold) (m : List THold) (h : THold) : Option (List THold) :=
 match lookH m h.Replica h.Number with
 | none => some (ins m h)
 | some x => if fits x h then some (upd m h) else none

theorem isK_iff {r n : Int} {x : THold} : isK r n x = true ↔ x.Replica = r ∧ x.Number = n := by simp [isK]
theorem Off.symm {a b : THold} (h : Off a b) : Off b a := by unfold Off at *; omega
theorem off_tri {l : List THold} (h : l.Pairwise Off) {i j : Nat} (hi : i < l.length) (hj : j < l.length) (hk : ¬ Off l[i] l[j]) : i = j := by
 rw [List.pairwise_iff_getElem] at h
 rcases Nat.lt_trichotomy i j with h1 | h1 | h1
 ·exact (hk (h _ _ hi hj h1)).elim
 ·exact h1
 ·exact (hk (h _ _ hj hi h1).symm).elim
theorem sorted_off {l : List THold} (h : l.Pairwise HLt) : l.Pairwise Off := h.imp fun {a b} k => k.off.1
theorem lookH_iff {l : List THold} (h : l.Pairwise Off) {r n : Int} {x : THold} : lookH l r n = some x ↔ x ∈ l ∧ x.Replica = r ∧ x.Number = n := by
 constructor
 ·intro hx
  exact ⟨List.mem_of_find?_eq_some hx, isK_iff.1 (List.find?_some hx)⟩
 ·rintro ⟨hm, h1, h2⟩
  cases hc : lookH l r n with
  | none => rw [lookH, List.find?_eq_none] at hc; exact (hc x hm (isK_iff.2 ⟨h1, h2⟩)).elim
  | some y =>
   have hy := List.mem_of_find?_eq_some hc
   have hk := isK_iff.1 (List.find?_some hc)
   obtain ⟨i, hi, rfl⟩ := List.getElem_of_mem hm
   obtain ⟨j, hj, rfl⟩ := List.getElem_of_mem hy
   have := off_tri h hi hj (fun k => k ⟨by omega, by omega⟩)
   subst this; rfl
theorem lookH_none {l : List THold} {r n : Int} : lookH l r n = none ↔ ∀ x ∈ l, ¬ (x.Replica = r ∧ x.Number = n) := by
 rw [lookH, List.find?_eq_none]
 exact ⟨fun h x hx hk => h x hx (isK_iff.2 hk), fun h x hx hk => h x hx (isK_iff.1 hk)⟩
theorem lookH_perm {l m : List THold} (hp : l.Perm m) (ho : m.Pairwise Off) (r n : Int) : lookH l r n = lookH m r n := by
 have hl : l.Pairwise Off := hp.symm.pairwise ho fun h => h.symm
 cases hc : lookH m r n with
 | none => rw [lookH_none] at hc ⊢; exact fun x hx => hc x (hp.mem_iff.1 hx)
 | some x => rw [lookH_iff ho] at hc; rw [lookH_iff hl]; exact ⟨hp.mem_iff.2 hc.1, hc.2⟩
theorem upd_off {l : List THold} (h : THold) (ho : l.Pairwise Off) : (upd l h).Pairwise Off := by
 unfold upd
 rw [List.pairwise_map]
 refine ho.imp fun {a b} k => ?_
 unfold Off at *
 split <;> split <;> exact k
theorem upd_sorted {l : List THold} (h : THold) (ho : l.Pairwise HLt) : (upd l h).Pairwise HLt := by
 unfold upd
 rw [List.pairwise_map]
 refine ho.imp fun {a b} k => ?_
 unfold HLt at *
 split <;> split <;> exact k
theorem upd_set {l : List THold} (ho : l.Pairwise Off) {h : THold} {j : Nat} (hj : j < l.length) (hk : isK h.Replica h.Number (l.getD j default) = true) : l.set j (bump (l.getD j default) h) = upd l h ∧ lookH l h.Replica h.Number = some (l.getD j default) := by
 have e : l.getD j default = l[j] := by simp [List.getD, hj]
 rw [e] at hk ⊢
 refine ⟨?_, (lookH_iff ho).2 ⟨List.getElem_mem hj, isK_iff.1 hk⟩⟩
 apply List.ext_getElem (by simp [upd])
 intro i h1 h2
 simp only [List.getElem_set, upd, List.getElem_map]
 by_cases hij : j = i
 ·subst hij; rw [if_pos rfl, if_pos hk]
 ·rw [if_neg hij, if_neg]
  intro hk2
  refine hij (off_tri ho hj (by simpa using h1) fun k => k ?_)
  have := isK_iff.1 hk; have := isK_iff.1 hk2; omega

theorem jstep_perm {l m : List THold} (hp : l.Perm m) (ho : m.Pairwise Off) (h : THold) : (jstep (fun l h => l ++ [h]) l h = none ∧ jstep putS m h = none) ∨ ∃ l' m', jstep (fun l h => l ++ [h]) l h = some l' ∧ jstep putS m h = some m' ∧ l'.Perm m' := by
 unfold jstep
 rw [lookH_perm hp ho]
 cases lookH m h.Replica h.Number with
 | none => exact .inr ⟨_, _, rfl, rfl, (List.perm_append_comm.trans (hp.cons h)).trans (putS_perm h m).symm⟩
 | some x =>
  simp only
  by_cases hf : fits x h
  ·rw [if_pos hf, if_pos hf]; exact .inr ⟨_, _, rfl, rfl, hp.map _⟩
  ·rw [if_neg hf, if_neg hf]; exact .inl ⟨rfl, rfl⟩
theorem jstep_sorted {m m' : List THold} {h : THold} (hm : m.Pairwise HLt) (hj : jstep putS m h = some m') : m'.Pairwise HLt := by
 unfold jstep at hj
 cases hc : lookH m h.Replica h.Number with
 | none =>
  rw [hc] at hj; simp only [Option.some.injEq] at hj; subst hj
  exact putS_sorted h m hm fun x hx hk => lookH_none.1 hc x hx hk
 | some x =>
  rw [hc] at hj; simp only at hj
  split at hj
  ·simp only [Option.some.injEq] at hj; subst hj; exact upd_sorted h hm
  ·cases hj
theorem fold_perm : ∀ (b : List THold) {l m : List THold}, l.Perm m → m.Pairwise HLt → (foldO (jstep fun l h => l ++ [h]) l b = none ∧ foldO (jstep putS) m b = none) ∨ ∃ l' m', foldO (jstep fun l h => l ++ [h]) l b = some l' ∧ foldO (jstep putS) m b = some m' ∧ l'.Perm m' ∧ m'.Pairwise HLt
 | [], l, m, hp, hm => .inr ⟨l, m, rfl, rfl, hp, hm⟩
 | h :: b, l, m, hp, hm => by
  rcases jstep_perm hp (sorted_off hm) h with ⟨h1, h2⟩ | ⟨l', m', h1, h2, h3⟩
  ·exact .inl ⟨by simp only [foldO, h1], by simp only [foldO, h2]⟩
  ·simp only [foldO, h1, h2]
   exact fold_perm b h3 (jstep_sorted hm h2)

def Jn (a b : List THold) : Option (List THold) := foldO (jstep putS) a b
def JS (a b : List THold) : List THold × Int :=
 if Rts a ∧ Rts b then (match Jn a b with
  | none => ([], 1)
  | some m => if 16 < m.length then ([], 7) else (m, 0))
 else ([], 1)

theorem jstep_len {ins : List THold → THold → List THold} (hi : ∀ l h, (ins l h).length = l.length + 1) {m m' : List THold} {h : THold} (hj : jstep ins m h = some m') : m'.length ≤ m.length + 1 := by
 unfold jstep at hj
 split at hj
 ·simp only [Option.some.injEq] at hj; subst hj; rw [hi]; omega
 ·split at hj
  ·simp only [Option.some.injEq] at hj; subst hj; simp [upd]
  ·cases hj

/-- The inner loop: where the key stands. -/
theorem ref_L2 (b s : List THold) (i : Nat) (hi : i < b.length) (hb : i < 1000000000000) (hs : s.length ≤ 1000000000000) (ho : s.Pairwise Off) : ∃ z, loopM (ur06_Join_L2 b ((i : Int), s)) fuel (0, -1) = some z ∧ ((z.2.2.2 = -1 ∧ lookH s (b.getD i default).Replica (b.getD i default).Number = none) ∨ ∃ j : Nat, z.2.2.2 = (j : Int) ∧ j < s.length ∧ isK (b.getD i default).Replica (b.getD i default).Number (s.getD j default) = true) := by
 refine loopM_ind (fun k t => t.1 = (k : Int) ∧ ((t.2 = -1 ∧ ∀ j, j < k → isK (b.getD i default).Replica (b.getD i default).Number (s.getD j default) = false) ∨ ∃ j : Nat, t.2 = (j : Int) ∧ j < k ∧ isK (b.getD i default).Replica (b.getD i default).Number (s.getD j default) = true)) s.length (by omega) _ ?_ ?_ ⟨rfl, .inl ⟨rfl, fun j h => by omega⟩⟩
 ·rintro k ⟨t1, t2⟩ hk ⟨h1, hI⟩
  simp only at h1 hI
  subst h1
  refine .inl ?_
  simp only [ur06_Join_L2, six_of hk, six_of hi, letM_eq, Option.bind]
  rw [if_pos (by simp; omega)]
  simp only [wr_succ (show k < 1000000000000000 by omega)]
  have hg : ∀ b : Bool, gd (b = true) (some k) = some (if b = true then k else default) := fun b => by cases b <;> rfl
  have hg2 : ∀ b : Bool, gd (b = true) (some i) = some (if b = true then i else default) := fun b => by cases b <;> rfl
  simp only [hg, hg2]
  by_cases hR : (s.getD k default).Replica = (b.getD i default).Replica
  ·simp only [hR, decide_true, if_true, Bool.true_and]
   by_cases hN : (s.getD k default).Number = (b.getD i default).Number
   ·rw [if_pos (by simpa only [decide_eq_true_eq] using hN)]
    exact ⟨_, rfl, rfl, .inr ⟨k, rfl, by omega, isK_iff.2 ⟨hR, hN⟩⟩⟩
   ·rw [if_neg (by simpa only [decide_eq_true_eq] using hN)]
    refine ⟨_, rfl, rfl, ?_⟩
    rcases hI with ⟨e, hI⟩ | ⟨j, e, hj, hI⟩
    ·refine .inl ⟨e, fun j hj => ?_⟩
     rcases Nat.lt_succ_iff_lt_or_eq.1 hj with h | rfl
     ·exact hI j h
     ·exact Bool.eq_false_iff.2 fun h => hN (isK_iff.1 h).2
    ·exact .inr ⟨j, e, by omega, hI⟩
  ·simp only [hR, decide_false, Bool.false_and]
   rw [if_neg Bool.false_ne_true]
   refine ⟨_, rfl, rfl, ?_⟩
   rcases hI with ⟨e, hI⟩ | ⟨j, e, hj, hI⟩
   ·refine .inl ⟨e, fun j hj => ?_⟩
    rcases Nat.lt_succ_iff_lt_or_eq.1 hj with h | rfl
    ·exact hI j h
    ·exact Bool.eq_false_iff.2 fun h => hR (isK_iff.1 h).1
   ·exact .inr ⟨j, e, by omega, hI⟩
 ·rintro ⟨t1, t2⟩ ⟨h1, hI⟩
  simp only at h1 hI
  subst h1
  refine ⟨_, by simp only [ur06_Join_L2]; rw [if_neg (by simp)], ?_⟩
  rcases hI with ⟨e, hI⟩ | hI
  ·refine .inl ⟨e, lookH_none.2 fun x hx hk => ?_⟩
   obtain ⟨j, hj, rfl⟩ := List.getElem_of_mem hx
   have := hI j hj
   rw [show s.getD j default = s[j] by simp [List.getD, hj], isK_iff.2 hk] at this
   cases this
  ·exact .inr hI

theorem ref_Join_eq (a b : List THold) (ha : a.length ≤ 1000000) (hb : b.length ≤ 1000000) : ur06_Join a b = some (JS a b) := by
 unfold ur06_Join JS
 rw [ref_Rights_eq a (by omega)]
 simp only [Option.bind]
 by_cases h1 : Rts a
 ·rw [gd_t (by simp [h1]), ref_Rights_eq b (by omega)]
  simp only []
  by_cases h2 : Rts b
  ·rw [if_neg (by simp [h1, h2]), if_pos ⟨h1, h2⟩, app_of (by simp; omega)]
   simp only [List.nil_append]
   rw [(loop_foldO b (by omega) (jstep putS) id (([] : List THold), (1 : Int)) (fun i s => s.Pairwise HLt ∧ s.length ≤ a.length + i) ⟨h1.2.1, by omega⟩ (fun i s hi hJ => ⟨?_, fun s' hs => ⟨jstep_sorted hJ.1 hs, by have := jstep_len (fun l h => putS_length h l) hs; omega⟩⟩) (fun s hs => by simp [ur06_Join_L1])).1]
   ·unfold Jn
    cases foldO (jstep putS) a b with
    | none => rfl
    | some m =>
     simp only [onS_l, id]
     by_cases h16 : 16 < m.length
     ·rw [if_pos (by simp; omega), if_pos h16]
     ·rw [if_neg (by simp; omega), if_neg h16]
   ·have ho := sorted_off hJ.1
    obtain ⟨z, hz, hcase⟩ := ref_L2 b s i hi (by omega) (by omega) ho
    simp only [ur06_Join_L1, six_of hi, letM_eq, Option.bind]
    rw [if_pos (by simp; omega), hz]
    simp only [wr_succ (show i < 1000000000000000 by omega)]
    rcases hcase with ⟨e, hl⟩ | ⟨j, e, hj, hk⟩
    ·rw [if_pos (by rw [e]; rfl), Put_own_eq _ _ (by omega)]
     simp only [jstep, hl]
    ·obtain ⟨u1, u2⟩ := upd_set ho hj hk
     rw [if_neg (by rw [e]; simp), e]
     simp only [six_of hj, jstep, u2]
     by_cases hA : (s.getD j default).Amount = (b.getD i default).Amount
     ·rw [gd_t (by rw [decide_eq_true hA]; rfl)]
      simp only []
      rw [gd_t (by rw [decide_eq_true hA]; rfl)]
      simp only []
      by_cases hD : (s.getD j default).Due = (b.getD i default).Due
      ·rw [if_neg (by rw [decide_eq_true hA, decide_eq_true hD]; decide), if_pos ⟨hA, hD⟩, ← u1]
       rfl
      ·rw [if_pos (by rw [decide_eq_false hD]; simp), if_neg (fun x => hD x.2)]
     ·rw [gd_f (by rw [decide_eq_false hA]; decide)]
      simp only []
      rw [gd_f (by rw [decide_eq_false hA]; decide)]
      simp only []
      rw [if_pos (by rw [decide_eq_false hA]; rfl), if_neg (fun x => hA x.1)]
  ·rw [if_pos (by simp [h2]), if_neg (fun x => h2 x.2)]
 ·rw [gd_f (by simp [h1]), if_neg (fun x => h1 x.1)]
  simp [h1]
theorem findK_putK {K α : Type} [DecidableEq K] (k q : K) (a : α) : ∀ l : List (K × α), findK q (putK k a l) = if k = q then some a else findK q l
 | [] => by simp [putK, findK]
 | p :: r => by
  unfold putK
  by_cases h : p.1 = k
  ·rw [if_pos h]
   unfold findK
   by_cases hq : k = q
   ·rw [if_pos hq]; simp [hq]
   ·rw [if_neg hq, if_neg hq, if_neg (by rw [h]; exact hq)]
  ·rw [if_neg h]
   unfold findK
   rw [findK_putK k q a r]
   by_cases hq : k = q
   ·rw [if_neg (by rw [← hq]; exact h), if_pos hq]; simp [hq]
   ·rw [if_neg hq, if_neg hq]

def keyH (h : THold) : Vector Int 2 := #v[h.Replica, h.Number]
theorem keyH_eq {a b : THold} : keyH a = keyH b ↔ a.Replica = b.Replica ∧ a.Number = b.Number := by
 constructor
 ·intro h
  have h0 : (keyH a).get 0 = (keyH b).get 0 := by rw [h]
  have h1 : (keyH a).get 1 = (keyH b).get 1 := by rw [h]
  exact ⟨h0, h1⟩
 ·rintro ⟨h1, h2⟩
  unfold keyH; rw [h1, h2]
theorem keyH_ok {h : THold} (hh : HOk h) : okInts (keyH h) = true := by
 unfold HOk at hh
 have e1 : inI64 h.Replica = true := by simp only [inI64, decide_eq_true_eq]; omega
 have e2 : inI64 h.Number = true := by simp only [inI64, decide_eq_true_eq]; omega
 simp [okInts, keyH, e1, e2]

def MapOf (a : List THold) (i : Nat) (m : AMap (Vector Int 2) Int okInts) : Prop :=
 (∀ j, j < i → findK (keyH (a.getD j default)) m.es = some (j : Int)) ∧ ∀ k v, findK k m.es = some v → ∃ j : Nat, j < i ∧ v = (j : Int) ∧ keyH (a.getD j default) = k
theorem sorted_at {a : List THold} (h : a.Pairwise HLt) {i j : Nat} (hi : i < a.length) (hj : j < a.length) (hk : (a.getD i default).Replica = (a.getD j default).Replica ∧ (a.getD i default).Number = (a.getD j default).Number) : i = j := by
 rw [show a.getD i default = a[i] by simp [List.getD, hi], show a.getD j default = a[j] by simp [List.getD, hj]] at hk
 exact off_tri (sorted_off h) hi hj fun k => k hk
theorem map_loop (a : List THold) (ha : Rts a) : ∃ m, loopM (hold_Join_L1 a) fuel (0, AMap.empty) = some m ∧ MapOf a a.length m := by
 have hlen := ha.2.2
 refine loopM_ind (fun i s => s.1 = (i : Int) ∧ MapOf a i s.2) a.length (by omega) _ ?_ ?_ ⟨rfl, fun j h => by omega, fun k v h => by simp [AMap.empty, findK] at h⟩
 ·rintro i ⟨s1, m⟩ hi ⟨h1, hI, hI2⟩
  simp only at h1 hI hI2
  subst h1
  refine .inl ?_
  have hok : HOk (a.getD i default) := ha.1 _ (by simp [List.getD, hi])
  simp only [hold_Join_L1, six_of hi, letM_eq, Option.bind]
  rw [if_pos (by simp; omega)]
  have hk := keyH_ok hok
  rw [show (#v[(a.getD i default).Replica, (a.getD i default).Number] : Vector Int 2) = keyH (a.getD i default) from rfl]
  unfold AMap.put
  rw [dif_pos hk]
  refine ⟨_, rfl, wr_succ (by omega), fun j hj => ?_, fun k v hv => ?_⟩
  ·simp only
   rw [findK_putK]
   rcases Nat.lt_succ_iff_lt_or_eq.1 hj with h | rfl
   ·rw [if_neg (fun h3 => by have := sorted_at ha.2.1 hi (by omega) (keyH_eq.1 h3); omega)]
    exact hI j h
   ·rw [if_pos rfl]
  ·simp only at hv
   rw [findK_putK] at hv
   split at hv
   ·rename_i he
    simp only [Option.some.injEq] at hv
    exact ⟨i, by omega, hv.symm, he⟩
   ·obtain ⟨j, h1, h2, h3⟩ := hI2 k v hv
    exact ⟨j, by omega, h2, h3⟩
 ·rintro ⟨s1, m⟩ ⟨h1, hI⟩
  simp only at h1 hI
  subst h1
  exact ⟨m, by simp [hold_Join_L1], hI⟩

theorem upd_key (s : List THold) (h : THold) (j : Nat) : ((upd s h).getD j default).Replica = (s.getD j default).Replica ∧ ((upd s h).getD j default).Number = (s.getD j default).Number := by
 unfold upd
 rw [List.getD, List.getD, List.getElem?_map]
 cases s[j]? with
 | none => exact ⟨rfl, rfl⟩
 | some x => simp only [Option.map_some, Option.getD_some]; split <;> exact ⟨rfl, rfl⟩
def InvJ (a b : List THold) (i : Nat) (s : List THold) : Prop :=
 s.Pairwise Off ∧ a.length ≤ s.length ∧ s.length ≤ a.length + i ∧ (∀ j, j < a.length → (s.getD j default).Replica = (a.getD j default).Replica ∧ (s.getD j default).Number = (a.getD j default).Number) ∧
  ∀ j, a.length ≤ j → j < s.length → ∃ q, q < i ∧ (s.getD j default).Replica = (b.getD q default).Replica ∧ (s.getD j default).Number = (b.getD q default).Number

theorem InvJ.step {a b s s' : List THold} {i : Nat} (hJ : InvJ a b i s) (hi : i < b.length) (hs : jstep (fun l h => l ++ [h]) s (b.getD i default) = some s') : InvJ a b (i + 1) s' := by
 obtain ⟨h1, h2, h3, h4, h5⟩ := hJ
 unfold jstep at hs
 cases hl : lookH s (b.getD i default).Replica (b.getD i default).Number with
 | none =>
  rw [hl] at hs; simp only [Option.some.injEq] at hs; subst hs
  have hn := lookH_none.1 hl
  refine ⟨?_, by simp; omega, by simp; omega, fun j hj => ?_, fun j hj hj2 => ?_⟩
  ·rw [List.pairwise_append]
   refine ⟨h1, by simp, fun x hx y hy => ?_⟩
   rw [List.mem_singleton.1 hy]
   exact fun k => hn x hx k
  ·rw [show (s ++ [b.getD i default]).getD j default = s.getD j default by rw [List.getD, List.getElem?_append_left (by omega)]; rfl]
   exact h4 j hj
  ·by_cases hj3 : j < s.length
   ·rw [show (s ++ [b.getD i default]).getD j default = s.getD j default by rw [List.getD, List.getElem?_append_left hj3]; rfl]
    obtain ⟨q, h6, h7⟩ := h5 j hj hj3
    exact ⟨q, by omega, h7⟩
   ·simp only [List.length_append, List.length_singleton] at hj2
    obtain rfl : j = s.length := by omega
    rw [show (s ++ [b.getD i default]).getD s.length default = b.getD i default by rw [List.getD, List.getElem?_append_right (Nat.le_refl _), Nat.sub_self]; rfl]
    exact ⟨i, by omega, rfl, rfl⟩
 | some x =>
  rw [hl] at hs; simp only at hs
  split at hs
  ·simp only [Option.some.injEq] at hs; subst hs
   have hle : (upd s (b.getD i default)).length = s.length := by simp only [upd, List.length_map]
   refine ⟨upd_off _ h1, by omega, by omega, fun j hj => ?_, fun j hj hj2 => ?_⟩
   ·rw [(upd_key s _ j).1, (upd_key s _ j).2]; exact h4 j hj
   ·obtain ⟨q, h6, h7⟩ := h5 j hj (by omega)
    exact ⟨q, by omega, by rw [(upd_key s _ j).1, (upd_key s _ j).2]; exact h7⟩
  ·cases hs

theorem hold_Join_eq (a b : List THold) (ha : a.length ≤ 1000000) (hb : b.length ≤ 1000000) : hold_Join a b = some (JS a b) := by
 unfold hold_Join JS
 rw [hold_Rights_eq a (by omega)]
 simp only [Option.bind]
 by_cases h1 : Rts a
 ·rw [gd_t (by simp [h1]), hold_Rights_eq b (by omega)]
  simp only []
  by_cases h2 : Rts b
  ·rw [if_neg (by simp [h1, h2]), if_pos ⟨h1, h2⟩, app_of (by simp; omega)]
   simp only [List.nil_append]
   obtain ⟨m, hm, hM1, hM2⟩ := map_loop a h1
   rw [hm]
   simp only []
   have hbl := h2.2.2
   have hinv0 : InvJ a b 0 a := ⟨sorted_off h1.2.1, by omega, by omega, fun j _ => ⟨rfl, rfl⟩, fun j hj hj2 => by omega⟩
   have key := loop_foldO (body := hold_Join_L2 b m) b (by omega) (jstep fun l h => l ++ [h]) id (([] : List THold), (1 : Int)) (InvJ a b) hinv0 (fun i s hi hJ => ⟨?_, fun s' hs => hJ.step hi hs⟩) (fun s hs => by simp [hold_Join_L2])
   ·rw [key.1]
    unfold Jn
    rcases fold_perm b (List.Perm.refl a) h1.2.1 with ⟨e1, e2⟩ | ⟨l', m', e1, e2, e3, e4⟩
    ·rw [e1, e2]; rfl
    ·rw [e1, e2]
     have hln : l'.length = m'.length := e3.length_eq
     have hl3 := (key.2 l' e1).2.2.1
     simp only [onS_l, id]
     by_cases h16 : 16 < m'.length
     ·rw [if_pos (by simp; omega), if_pos h16]
     ·rw [if_neg (by simp; omega), if_neg h16]
      simp only [sortM]
      rw [if_pos (by omega), sort_uniq e3 e4]
   ·obtain ⟨g1, g2, g3, g4, g5⟩ := hJ
    have hok : HOk (b.getD i default) := h2.1 _ (by simp [List.getD, hi])
    have hk := keyH_ok hok
    simp only [hold_Join_L2, six_of hi, letM_eq, Option.bind]
    rw [if_pos (by simp; omega)]
    rw [show (#v[(b.getD i default).Replica, (b.getD i default).Number] : Vector Int 2) = keyH (b.getD i default) from rfl]
    simp only [AMap.get]
    rw [if_pos hk]
    simp only [wr_succ (show i < 1000000000000000 by omega)]
    cases hf : findK (keyH (b.getD i default)) m.es with
    | none =>
     have hl : lookH s (b.getD i default).Replica (b.getD i default).Number = none := by
      rw [lookH_none]
      intro x hx hxk
      obtain ⟨j, hj, rfl⟩ := List.getElem_of_mem hx
      have e : s.getD j default = s[j] := by simp [List.getD, hj]
      rw [← e] at hxk
      by_cases hja : j < a.length
      ·have h6 := g4 j hja
       have h7 := hM1 j hja
       rw [show keyH (a.getD j default) = keyH (b.getD i default) from keyH_eq.2 ⟨by omega, by omega⟩, hf] at h7
       cases h7
      ·obtain ⟨q, h6, h7⟩ := g5 j (by omega) hj
       have := sorted_at h2.2.1 (i := q) (j := i) (by omega) hi ⟨by omega, by omega⟩
       omega
     rw [if_pos (by rfl), app_of (by simp; omega)]
     simp only [jstep, hl]
    | some v =>
     obtain ⟨j, hj, rfl, hjk⟩ := hM2 _ v hf
     have hjk := keyH_eq.1 hjk
     have h6 := g4 j hj
     have hjs : j < s.length := by omega
     obtain ⟨u1, u2⟩ := upd_set g1 hjs (isK_iff.2 ⟨by omega, by omega⟩ : isK (b.getD i default).Replica (b.getD i default).Number (s.getD j default) = true)
     rw [if_neg (by simp)]
     simp only [Option.getD_some, six_of hjs, jstep, u2]
     by_cases hA : (s.getD j default).Amount = (b.getD i default).Amount
     ·rw [gd_t (by rw [decide_eq_true hA]; rfl)]
      simp only []
      by_cases hD : (s.getD j default).Due = (b.getD i default).Due
      ·rw [if_neg (by rw [decide_eq_true hA, decide_eq_true hD]; decide), if_pos ⟨hA, hD⟩, ← u1]
       rfl
      ·rw [if_pos (by rw [decide_eq_false hD]; simp), if_neg (fun x => hD x.2)]
     ·rw [gd_f (by rw [decide_eq_false hA]; decide)]
      simp only []
      rw [if_pos (by rw [decide_eq_false hA]; rfl), if_neg (fun x => hA x.1)]
  ·rw [if_pos (by simp [h2]), if_neg (fun x => h2 x.2)]
 ·rw [gd_f (by simp [h1]), if_neg (fun x => h1 x.1)]
  simp [h1]

theorem JS_len (a b : List THold) : (JS a b).1.length ≤ 16 := by
 unfold JS
 split
 ·split
  ·simp
  ·split
   ·simp
   ·simp only; omega
 ·simp
def cf : Option THold → Option THold → Prop
 | some x, some y => ¬ fits x y
 | _, _ => False
theorem fits.symm {x y : THold} (h : fits x y) : fits y x := ⟨h.1.symm, h.2.symm⟩
theorem checked_eq (a : Int) (l : List Int) (hl : l.length ≤ 1000000000000) : num_checked a l = some (if ∀ x ∈ l ++ [a], IsN x then (a, 0) else (0, 2)) := by
 unfold num_checked
 rw [app_of (by simp; omega)]
 simp only [Option.bind]
 have hn : (l ++ [a]).length ≤ 1000000000000000 := by simp; omega
 generalize l ++ [a] = m at hn
 rw [loop_all m.length hn (fun i => IsN (m.getD i default)) (0, 2) () (fun i hi => ?_) (by simp [num_checked_L1])]
 ·by_cases h : ∀ x ∈ m, IsN x
  ·rw [if_pos (fun i hi => h _ (by simp [List.getD, hi])), if_pos h]; rfl
  ·rw [if_neg (fun h2 => h fun x hx => by obtain ⟨i, hi, rfl⟩ := List.getElem_of_mem hx; simpa [List.getD, hi] using h2 i hi), if_neg h]; rfl
 ·simp only [num_checked_L1, six_of hi, num_Is_eq, Option.bind]
  rw [if_pos (by simp; omega)]
  simp only [wr_succ (show i < 1000000000000000 by omega)]
  by_cases h : IsN (m.getD i default)
  ·rw [if_neg (by rw [decide_eq_true h]; decide), if_pos h]
  ·rw [if_pos (by rw [decide_eq_false h]; rfl), if_neg h]

def addS (a b : Int) : Int × Int := if IsN a ∧ IsN b ∧ IsN (a + b) then (a + b, 0) else (0, 2)
def subS (a b : Int) : Int × Int := if IsN a ∧ IsN b ∧ IsN (a - b) then (a - b, 0) else (0, 2)
theorem num_Add_eq (a b : Int) : num_Add a b = some (addS a b) := by
 unfold num_Add addS
 rw [checked_eq _ _ (by simp)]
 simp only [Option.bind]
 by_cases h : IsN a ∧ IsN b
 ·have hw : wr .i64 (a + b) = a + b := wr_id (by unfold IsN at h; omega)
  rw [hw]
  by_cases h2 : IsN (a + b)
  ·rw [if_pos (by simp [h.1, h.2, h2]), if_pos ⟨h.1, h.2, h2⟩]
  ·rw [if_neg (by simp [h.1, h.2, h2]), if_neg (fun x => h2 x.2.2)]
 ·rw [if_neg (fun x => h ⟨x a (by simp), x b (by simp)⟩), if_neg (fun x => h ⟨x.1, x.2.1⟩)]
theorem num_Sub_eq (a b : Int) : num_Sub a b = some (subS a b) := by
 unfold num_Sub subS
 rw [checked_eq _ _ (by simp)]
 simp only [Option.bind]
 by_cases h : IsN a ∧ IsN b
 ·have hw : wr .i64 (a - b) = a - b := wr_id (by unfold IsN at h; omega)
  rw [hw]
  by_cases h2 : IsN (a - b)
  ·rw [if_pos (by simp [h.1, h.2, h2]), if_pos ⟨h.1, h.2, h2⟩]
  ·rw [if_neg (by simp [h.1, h.2, h2]), if_neg (fun x => h2 x.2.2)]
 ·rw [if_neg (fun x => h ⟨x a (by simp), x b (by simp)⟩), if_neg (fun x => h ⟨x.1, x.2.1⟩)]
theorem ref_Add_eq (a b : Int) : ur01_Add a b = some (addS a b) := by
 unfold ur01_Add addS
 simp only [ref_Is_eq, Option.bind]
 by_cases h1 : IsN a
 ·rw [gd_t (by rw [decide_eq_true h1]; rfl)]
  simp only []
  by_cases h2 : IsN b
  ·have hw : wr .i64 (a + b) = a + b := wr_id (by unfold IsN at h1 h2; omega)
   rw [hw, gd_t (by rw [decide_eq_true h1, decide_eq_true h2]; rfl)]
   simp only []
   by_cases h3 : IsN (a + b)
   ·rw [if_neg (by rw [decide_eq_true h1, decide_eq_true h2, decide_eq_true h3]; decide), if_pos ⟨h1, h2, h3⟩]
   ·rw [if_pos (by rw [decide_eq_false h3]; simp), if_neg (fun x => h3 x.2.2)]
  ·rw [gd_f (by rw [decide_eq_false h2]; simp)]
   simp only []
   rw [if_pos (by rw [decide_eq_false h2]; simp), if_neg (fun x => h2 x.2.1)]
 ·rw [gd_f (by rw [decide_eq_false h1]; decide)]
  simp only []
  rw [gd_f (by rw [decide_eq_false h1]; simp)]
  simp only []
  rw [if_pos (by rw [decide_eq_false h1]; simp), if_neg (fun x => h1 x.1)]

/-- All, added; none, if it is too great on the way. -/
def sumO : Int → List Int → Option Int
 | n, [] => some n
 | n, x :: t => if (addS n x).2 = 0 then sumO (addS n x).1 t else none
def sumS (l : List Int) : Int × Int := match sumO 0 l with | some n => (n, 0) | none => (0, 2)
theorem addS_err (a b : Int) (h : (addS a b).2 ≠ 0) : (addS a b).2 = 2 := by
 by_cases hc : IsN a ∧ IsN b ∧ IsN (a + b)
 ·rw [addS, if_pos hc] at h; exact (h rfl).elim
 ·rw [addS, if_neg hc]
theorem sum_loop' (l : List Int) {ρ : Type} {body : Int × Int → Option ((Int × Int) ⊕ ρ)} (fin : Int → Option ρ) (er : Option ρ)
  (hb : ∀ (i : Nat) (n : Int), i < l.length → body ((i : Int), n) = if (addS n (l.getD i default)).2 = 0 then some (.inl ((((i + 1 : Nat)) : Int), (addS n (l.getD i default)).1)) else er.map .inr) (hf : ∀ n, body ((l.length : Int), n) = (fin n).map .inr) :
  ∀ (k i : Nat) (n : Int), i + k = l.length → ∀ m, k < m → loopM body m ((i : Int), n) = match sumO n (l.drop i) with | some n => fin n | none => er
 | k, i, n, hk, 0, hm => by omega
 | 0, i, n, hk, m + 1, hm => by
  obtain rfl : i = l.length := by omega
  rw [List.drop_length]
  simp only [loopM, hf, sumO]
  cases fin n <;> rfl
 | k + 1, i, n, hk, m + 1, hm => by
  have hi : i < l.length := by omega
  have hd : l.drop i = l.getD i default :: l.drop (i + 1) := by rw [List.drop_eq_getElem_cons hi]; simp [List.getD, hi]
  rw [hd, sumO]
  simp only [loopM, hb i n hi]
  by_cases h : (addS n (l.getD i default)).2 = 0
  ·rw [if_pos h, if_pos h]
   exact sum_loop' l fin er hb hf k (i + 1) _ (by omega) m (by omega)
  ·rw [if_neg h, if_neg h]
   cases er <;> rfl
theorem sum_loop (l : List Int) (hl : l.length ≤ 1000000000000) {ρ : Type} {body : Int × Int → Option ((Int × Int) ⊕ ρ)} (fin : Int → Option ρ) (er : Option ρ)
  (hb : ∀ (i : Nat) (n : Int), i < l.length → body ((i : Int), n) = if (addS n (l.getD i default)).2 = 0 then some (.inl ((((i + 1 : Nat)) : Int), (addS n (l.getD i default)).1)) else er.map .inr) (hf : ∀ n, body ((l.length : Int), n) = (fin n).map .inr) :
  loopM body fuel (0, 0) = match sumO 0 l with | some n => fin n | none => er :=
 sum_loop' l fin er hb hf l.length 0 0 (by omega) fuel (by have := fuel_big; omega)
theorem ref_Sum_eq1 (l : List Int) (hl : l.length ≤ 1000000000000) : ur01_Sum l = some (sumS l) := by
 unfold ur01_Sum sumS
 rw [sum_loop l hl (fun n => some (.inl n : Int ⊕ (Int × Int))) (some (.inr (0, 2))) (fun i n hi => ?_) (fun n => by simp [ur01_Sum_L1])]
 ·cases sumO 0 l <;> rfl
 ·simp only [ur01_Sum_L1, six_of hi, ref_Add_eq, Option.bind]
  rw [if_pos (by simp; omega)]
  simp only [wr_succ (show i < 1000000000000000 by omega)]
  by_cases h : (addS n (l.getD i default)).2 = 0
  ·rw [if_neg (by rw [decide_eq_true h]; decide), if_pos h]
  ·rw [if_pos (by rw [decide_eq_false h]; rfl), if_neg h, addS_err _ _ h]; rfl
theorem num_Sum_eq (l : List Int) (hl : l.length ≤ 1000000000000) : num_Sum l = some (sumS l) := by
 have h1 : num_Sum_1 l = sumO 0 l := by
  unfold num_Sum_1
  rw [sum_loop l hl (fun n => some n) none (fun i n hi => ?_) (fun n => by simp [num_Sum_1_L1])]
  ·cases sumO 0 l <;> rfl
  ·simp only [num_Sum_1_L1, six_of hi, num_Add_eq, num_Must, Option.bind]
   rw [if_pos (by simp; omega)]
   simp only [wr_succ (show i < 1000000000000000 by omega)]
   by_cases h : (addS n (l.getD i default)).2 = 0
   ·rw [if_neg (by rw [decide_eq_true h]; decide), if_pos h]
   ·rw [if_pos (by rw [decide_eq_false h]; rfl), if_neg h]; rfl
 have h2 : num_Sum_P l = match sumO 0 l with | some _ => none | none => some 2 := by
  unfold num_Sum_P
  rw [sum_loop l hl (fun n => none) (some 2) (fun i n hi => ?_) (fun n => by simp [num_Sum_P_L1])]
  simp only [num_Sum_P_L1, six_of hi, num_Add_eq, Option.bind]
  rw [if_pos (by simp; omega)]
  simp only [wr_succ (show i < 1000000000000000 by omega)]
  by_cases h : (addS n (l.getD i default)).2 = 0
  ·rw [if_pos (by rw [decide_eq_true h]), if_pos h]
  ·rw [if_neg (by rw [decide_eq_false h]; decide), if_neg h, addS_err _ _ h]; rfl
 unfold num_Sum sumS
 rw [h1, h2]
 cases sumO 0 l <;> rfl
def VOk (v : Vector Int 16) : Prop := ∀ k : Fin 16, 0 ≤ v.get k ∧ v.get k ≤ 1099511627776
instance (v : Vector Int 16) : Decidable (VOk v) := by unfold VOk; infer_instance
def at16 (v : Vector Int 16) (i : Nat) : Int := if h : i < 16 then v.get ⟨i, h⟩ else 0
theorem VOk_iff (v : Vector Int 16) : (∀ i, i < 16 → 0 ≤ at16 v i ∧ at16 v i ≤ 1099511627776) ↔ VOk v := by
 constructor
 ·intro h k
  have := h k.1 k.2
  unfold at16 at this
  rw [dif_pos k.2] at this
  exact this
 ·intro h i hi
  unfold at16
  rw [dif_pos hi]
  exact h ⟨i, hi⟩
theorem ref02_Right_eq (v : Vector Int 16) : ur02_Right v = some (decide (VOk v)) := by
 unfold ur02_Right
 rw [loop_all 16 (by omega) (fun i => 0 ≤ at16 v i ∧ at16 v i ≤ 1099511627776) false () (fun i hi => ?_) (by simp [ur02_Right_L1])]
 ·by_cases h : VOk v
  ·rw [if_pos ((VOk_iff v).2 h), decide_eq_true h]; rfl
  ·rw [if_neg (fun k => h ((VOk_iff v).1 k)), decide_eq_false h]; rfl
 ·have e : at16 v i = v.get ⟨i, hi⟩ := by unfold at16; rw [dif_pos hi]
  simp only [ur02_Right_L1, fix_of hi, Option.bind, e]
  rw [if_pos (by simp; omega)]
  simp only [wr_succ (show i < 1000000000000000 by omega)]
  by_cases h1 : v.get ⟨i, hi⟩ < 0
  ·rw [gd_f (by rw [decide_eq_true h1]; decide)]
   simp only []
   rw [if_pos (by rw [decide_eq_true h1]; rfl), if_neg (by omega)]
  ·rw [gd_t (by rw [decide_eq_false h1])]
   simp only []
   by_cases h2 : 1099511627776 < v.get ⟨i, hi⟩
   ·rw [if_pos (by rw [decide_eq_true h2]; simp), if_neg (by omega)]
   ·rw [if_neg (by rw [decide_eq_false h1, decide_eq_false h2]; decide), if_pos (by omega)]
theorem ref02_Sum_eq (v : Vector Int 16) : ur02_Sum v = some (sumS v.toList) := by
 unfold ur02_Sum
 rw [ref_Sum_eq1 _ (by simp)]; rfl

def ROk (r : TRights) : Prop := VOk r.Given ∧ VOk r.Used ∧ ∀ k : Fin 16, VOk (r.Moved.get k) ∧ (r.Moved.get k).get k = 0
instance (r : TRights) : Decidable (ROk r) := by unfold ROk; infer_instance
def row (r : TRights) (i : Nat) : Prop := ∀ h : i < 16, VOk (r.Moved.get ⟨i, h⟩) ∧ (r.Moved.get ⟨i, h⟩).get ⟨i, h⟩ = 0
instance (r : TRights) (i : Nat) : Decidable (row r i) := by unfold row; infer_instance
theorem ref03_Right_eq (r : TRights) : ur03_Right r = some (decide (ROk r)) := by
 unfold ur03_Right
 rw [ref02_Right_eq, ref02_Right_eq]
 have hb : ∀ b : Bool, loopM (ur03_Right_L1 r) fuel (0, b) = some (b && decide (∀ i : Nat, i < 16 → row r i)) := fun b => by
  refine loopM_eq (fun i s => s = ((i : Int), b && decide (∀ j, j < i → row r j))) 16 (by omega) _ ?_ ?_ (by simp)
  ·rintro i s hi rfl
   refine .inl ⟨_, ?_, rfl⟩
   have hsucc : (∀ j, j < i + 1 → row r j) ↔ (∀ j, j < i → row r j) ∧ row r i :=
    ⟨fun h => ⟨fun j hj => h j (by omega), h i (by omega)⟩, fun h j hj => by rcases Nat.lt_succ_iff_lt_or_eq.1 hj with h2 | rfl; exact h.1 j h2; exact h.2⟩
   have hrow : row r i ↔ VOk (r.Moved.get ⟨i, hi⟩) ∧ (r.Moved.get ⟨i, hi⟩).get ⟨i, hi⟩ = 0 := ⟨fun h => h hi, fun h _ => h⟩
   simp only [ur03_Right_L1, fix_of hi, Option.bind]
   rw [if_pos (by simp; omega)]
   simp only [wr_succ (show i < 1000000000000000 by omega), letM_eq]
   generalize hB : (b && decide (∀ j, j < i → row r j)) = B
   have hR : (b && decide (∀ j, j < i + 1 → row r j)) = (B && decide (row r i)) := by
    rw [← hB]
    apply Bool.eq_iff_iff.2
    simp only [Bool.and_eq_true, decide_eq_true_eq, hsucc]
    exact ⟨fun h => ⟨⟨h.1, h.2.1⟩, h.2.2⟩, fun h => ⟨h.1.1, h.1.2, h.2⟩⟩
   rw [hR]
   cases B with
   | false => simp [gd]
   | true =>
    rw [gd_t rfl]
    simp only []
    rw [gd_t trivial, ref02_Right_eq]
    simp only [Bool.true_and]
    by_cases h1 : VOk (r.Moved.get ⟨i, hi⟩)
    ·rw [gd_t (decide_eq_true h1)]
     simp only []
     by_cases h2 : (r.Moved.get ⟨i, hi⟩).get ⟨i, hi⟩ = 0
     ·rw [decide_eq_true h1, decide_eq_true h2, decide_eq_true (hrow.2 ⟨h1, h2⟩)]; rfl
     ·rw [decide_eq_false h2, decide_eq_false (fun k => h2 (hrow.1 k).2), Bool.and_false]
    ·rw [gd_f (by rw [decide_eq_false h1]; decide)]
     simp only []
     rw [decide_eq_false h1, decide_eq_false (fun k => h1 (hrow.1 k).1)]; rfl
  ·rintro s rfl
   simp [ur03_Right_L1]
 have hrows : (∀ i : Nat, i < 16 → row r i) ↔ ∀ k : Fin 16, VOk (r.Moved.get k) ∧ (r.Moved.get k).get k = 0 :=
  ⟨fun h k => h k.1 k.2 k.2, fun h i hi _ => h ⟨i, hi⟩⟩
 simp only [Option.bind, gd_and]
 rw [hb]
 refine sd ?_
 simp only [Bool.and_eq_true, Bool.if_false_right, decide_eq_true_eq, hrows]
 unfold ROk
 exact ⟨fun h => ⟨h.1.1, h.1.2.2, h.2⟩, fun h => ⟨⟨h.1, h.1, h.2.1⟩, h.2.2⟩⟩

/-- What was given is what must be. -/
def gives (g u : Vector Int 16) (room : Int) : Prop := (sumS g.toList).2 = 0 ∧ (sumS u.toList).2 = 0 ∧ (addS room (sumS u.toList).1).2 = 0 ∧ (sumS g.toList).1 = (addS room (sumS u.toList).1).1
instance (g u : Vector Int 16) (room : Int) : Decidable (gives g u room) := by unfold gives; infer_instance
def COk (c : aJ) : Prop := IsN c.Init ∧ IsN c.Low ∧ IsN c.High ∧ c.Low ≤ c.Init ∧ c.Init ≤ c.High ∧ ROk c.Down ∧ ROk c.Up ∧ gives c.Down.Given c.Up.Used (c.Init - c.Low) ∧ gives c.Up.Given c.Down.Used (c.High - c.Init)
instance (c : aJ) : Decidable (COk c) := by unfold COk; infer_instance
theorem gd_nb {p : Prop} [Decidable p] {b : Bool} : gd p (some b) = some (if p then b else false) := by by_cases h : p <;> simp [gd, h]
theorem ref04_Right_eq (c : aJ) : ur04_Right c = some (decide (COk c)) := by
 unfold ur04_Right
 simp only [ref_Is_eq, ref03_Right_eq, ref02_Sum_eq, ref_Add_eq, Option.bind, gd_nb, letM_eq]
 by_cases h : IsN c.Init ∧ IsN c.Low ∧ IsN c.High ∧ c.Low ≤ c.Init ∧ c.Init ≤ c.High ∧ ROk c.Down ∧ ROk c.Up
 ·obtain ⟨h1, h2, h3, h4, h5, h6, h7⟩ := h
  have w1 : wr .i64 (c.Init - c.Low) = c.Init - c.Low := wr_id (by unfold IsN at *; omega)
  have w2 : wr .i64 (c.High - c.Init) = c.High - c.Init := wr_id (by unfold IsN at *; omega)
  rw [if_neg (by simp [h1, h2, h3, h6, h7]; omega), w1, w2]
  refine sd ?_
  simp only [Bool.and_eq_true, decide_eq_true_eq, and_assoc]
  unfold COk gives
  constructor
  ·rintro ⟨a, b, d, e, f, g, i, j⟩
   exact ⟨h1, h2, h3, h4, h5, h6, h7, ⟨a, b, d, i⟩, e, f, g, j⟩
  ·rintro ⟨_, _, _, _, _, _, _, ⟨a, b, d, i⟩, e, f, g, j⟩
   exact ⟨a, b, d, e, f, g, i, j⟩
 ·have hn : ¬ COk c := fun k => h ⟨k.1, k.2.1, k.2.2.1, k.2.2.2.1, k.2.2.2.2.1, k.2.2.2.2.2.1, k.2.2.2.2.2.2.1⟩
  rw [if_pos, decide_eq_false hn]
  by_cases h1 : IsN c.Init <;> by_cases h2 : IsN c.Low <;> by_cases h3 : IsN c.High <;> by_cases h4 : c.Init < c.Low <;> by_cases h5 : c.High < c.Init <;> by_cases h6 : ROk c.Down <;> by_cases h7 : ROk c.Up <;> simp [h1, h2, h3, h4, h5, h6, h7]
  exact h ⟨h1, h2, h3, by omega, by omega, h6, h7⟩
theorem foldl_app {α : Type} (g : Nat → α) : ∀ (n : Nat) (l : List α), (List.range n).foldl (fun s i => s ++ [g i]) l = l ++ (List.range n).map g
 | 0, l => by simp
 | n + 1, l => by rw [List.range_succ, List.foldl_append, foldl_app g n l]; simp
def negs (v : Vector Int 16) : List Int := (List.range 16).map fun i => wr .i64 (0 - at16 v i)
def valL (c : aJ) : List Int := [c.Init] ++ c.Up.Used.toList ++ negs c.Down.Used
theorem counter_Value_eq (c : aJ) : counter_Value c = some (sumS (valL c)) := by
 unfold counter_Value
 rw [app_of (by simp)]
 simp only [Option.bind]
 have hlen : ([c.Init] ++ c.Up.Used.toList).length = 17 := by simp
 have hv : (valL c).length ≤ 1000000000000 := by simp [valL, negs]
 rw [(loop_fold 16 (by omega) (fun s i => s ++ [wr .i64 (0 - at16 c.Down.Used i)]) id (fun i s => s.length = 17 + i) hlen (fun i s hi hJ => ⟨?_, by simp; omega⟩) (fun s _ => by simp [counter_Value_L1])).1]
 ·simp only [id]
  rw [foldl_app]
  rw [show [c.Init] ++ c.Up.Used.toList ++ (List.range 16).map (fun i => wr .i64 (0 - at16 c.Down.Used i)) = valL c from rfl, num_Sum_eq _ hv]
 ·have e : at16 c.Down.Used i = c.Down.Used.get ⟨i, hi⟩ := by unfold at16; rw [dif_pos hi]
  simp only [counter_Value_L1, fix_of hi, Option.bind]
  rw [if_pos (by simp; omega), app_of (by simp; omega)]
  simp only [wr_succ (show i < 1000000000000000 by omega), e]
theorem at16_list (v : Vector Int 16) : (List.range 16).map (at16 v) = v.toList := by
 apply List.ext_getElem (by simp)
 intro i h1 h2
 have hi : i < 16 := by simpa using h1
 rw [List.getElem_map, List.getElem_range, at16, dif_pos hi, Vector.getElem_toList]
 rfl
/-- A loop that puts sixteen numbers behind others. -/
theorem app_loop {body : Int × List Int → Option ((Int × List Int) ⊕ List Int)} (g : Nat → Int) (l : List Int) (hl : l.length ≤ 1000000) (hb : ∀ (i : Nat) (s : List Int), i < 16 → s.length ≤ 1000016 → body ((i : Int), s) = some (.inl ((((i + 1 : Nat)) : Int), s ++ [g i]))) (hf : ∀ s, body ((16 : Int), s) = some (.inr s)) :
  loopM body fuel (0, l) = some (l ++ (List.range 16).map g) := by
 rw [(loop_fold 16 (by omega) (fun s i => s ++ [g i]) id (fun i s => s.length = l.length + i) rfl (fun i s hi hJ => ⟨hb i s hi (by omega), by simp; omega⟩) (fun s _ => hf s)).1]
 simp only [id]
 rw [foldl_app]
theorem ref04_Value_eq (c : aJ) : ur04_Value c = some (sumS (valL c)) := by
 unfold ur04_Value
 rw [app_loop (at16 c.Up.Used) _ (by simp) (fun i s hi hs => ?_) (fun s => by simp [ur04_Value_L1])]
 ·simp only [Option.bind]
  rw [app_loop (fun i => wr .i64 (0 - at16 c.Down.Used i)) _ (by simp) (fun i s hi hs => ?_) (fun s => by simp [ur04_Value_L2])]
  ·simp only []
   rw [at16_list, show [c.Init] ++ c.Up.Used.toList ++ (List.range 16).map (fun i => wr .i64 (0 - at16 c.Down.Used i)) = valL c from rfl, ref_Sum_eq1 _ (by simp [valL, negs])]
  ·have e : at16 c.Down.Used i = c.Down.Used.get ⟨i, hi⟩ := by unfold at16; rw [dif_pos hi]
   simp only [ur04_Value_L2, fix_of hi, Option.bind]
   rw [if_pos (by simp; omega), app_of (by simp; omega)]
   simp only [wr_succ (show i < 1000000000000000 by omega), e]
 ·have e : at16 c.Up.Used i = c.Up.Used.get ⟨i, hi⟩ := by unfold at16; rw [dif_pos hi]
  simp only [ur04_Value_L1, fix_of hi, Option.bind]
  rw [if_pos (by simp; omega), app_of (by simp; omega)]
  simp only [wr_succ (show i < 1000000000000000 by omega), e]

def rowAt (r : TRights) (i : Nat) : Vector Int 16 := if h : i < 16 then r.Moved.get ⟨i, h⟩ else default
def freeL (r : TRights) (k : Nat) : List Int := [at16 r.Given k] ++ (List.range 16).map (fun i => at16 (rowAt r i) k) ++ [wr .i64 (0 - at16 r.Used k)] ++ negs (rowAt r k)
def freeS (r : TRights) (k : Int) : Int × Int := if 0 ≤ k ∧ k < 16 then sumS (freeL r k.toNat) else (0, 1)
theorem vec_Right_eq (v : Vector Int 16) : vec_Right v = some (decide (VOk v)) := by
 unfold vec_Right
 rw [loop_all 16 (by omega) (fun i => 0 ≤ at16 v i ∧ at16 v i ≤ 1099511627776) false () (fun i hi => ?_) (by simp [vec_Right_L1])]
 ·by_cases h : VOk v
  ·rw [if_pos ((VOk_iff v).2 h), decide_eq_true h]; rfl
  ·rw [if_neg (fun k => h ((VOk_iff v).1 k)), decide_eq_false h]; rfl
 ·have e : at16 v i = v.get ⟨i, hi⟩ := by unfold at16; rw [dif_pos hi]
  simp only [vec_Right_L1, fix_of hi, num_Is_eq, Option.bind, e]
  rw [if_pos (by simp; omega)]
  simp only [wr_succ (show i < 1000000000000000 by omega)]
  by_cases h1 : v.get ⟨i, hi⟩ < 0
  ·rw [gd_f (by rw [decide_eq_true h1]; decide)]
   simp only []
   rw [if_pos (by rw [decide_eq_true h1]; rfl), if_neg (by omega)]
  ·rw [gd_t (by rw [decide_eq_false h1])]
   simp only []
   by_cases h2 : IsN (v.get ⟨i, hi⟩)
   ·rw [if_neg (by rw [decide_eq_false h1, decide_eq_true h2]; decide), if_pos (by unfold IsN at h2; omega)]
   ·rw [if_pos (by rw [decide_eq_false h2]; simp), if_neg (by unfold IsN at h2; omega)]
theorem rights_Right_eq (r : TRights) : rights_Right r = some (decide (ROk r)) := by
 unfold rights_Right
 rw [vec_Right_eq, vec_Right_eq]
 simp only [Option.bind, gd_nb]
 by_cases h : VOk r.Given ∧ VOk r.Used
 ·rw [if_neg (by simp [h.1, h.2])]
  rw [loop_all 16 (by omega) (row r) false () (fun i hi => ?_) (by simp [rights_Right_L1])]
  ·have hrows : (∀ i : Nat, i < 16 → row r i) ↔ ∀ k : Fin 16, VOk (r.Moved.get k) ∧ (r.Moved.get k).get k = 0 :=
    ⟨fun h k => h k.1 k.2 k.2, fun h i hi _ => h ⟨i, hi⟩⟩
   by_cases h2 : ∀ i : Nat, i < 16 → row r i
   ·rw [if_pos h2, decide_eq_true (show ROk r from ⟨h.1, h.2, hrows.1 h2⟩)]; rfl
   ·rw [if_neg h2, decide_eq_false (show ¬ ROk r from fun k => h2 (hrows.2 k.2.2))]; rfl
  ·have hrow : row r i ↔ VOk (r.Moved.get ⟨i, hi⟩) ∧ (r.Moved.get ⟨i, hi⟩).get ⟨i, hi⟩ = 0 := ⟨fun h => h hi, fun h _ => h⟩
   simp only [rights_Right_L1, fix_of hi, vec_Right_eq, letM_eq, Option.bind]
   rw [if_pos (by simp; omega)]
   simp only [wr_succ (show i < 1000000000000000 by omega)]
   by_cases h1 : VOk (r.Moved.get ⟨i, hi⟩)
   ·rw [gd_t (by rw [decide_eq_true h1]; rfl)]
    simp only []
    by_cases h2 : (r.Moved.get ⟨i, hi⟩).get ⟨i, hi⟩ = 0
    ·rw [if_neg (by rw [decide_eq_true h1, decide_eq_true h2]; decide), if_pos (hrow.2 ⟨h1, h2⟩)]
    ·rw [if_pos (by rw [decide_eq_false h2]; simp), if_neg (fun k => h2 (hrow.1 k).2)]
   ·rw [gd_f (by rw [decide_eq_false h1]; decide)]
    simp only []
    rw [if_pos (by rw [decide_eq_false h1]; rfl), if_neg (fun k => h1 (hrow.1 k).1)]
 ·have hn : ¬ ROk r := fun k => h ⟨k.1, k.2.1⟩
  rw [if_pos, decide_eq_false hn]
  by_cases h1 : VOk r.Given <;> by_cases h2 : VOk r.Used <;> simp [h1, h2]
  exact h ⟨h1, h2⟩
def bAt (s : ByteArray) (i : Nat) : Int := (bix s (i : Int)).getD 0
theorem bix_of {s : ByteArray} {i : Nat} (h : i < s.size) : bix s (i : Int) = some (bAt s i) := by
 unfold bAt bix
 rw [dif_pos (by omega)]
 rfl
def NameOk (s : ByteArray) : Prop := (∀ i : Nat, i < s.size → 33 ≤ bAt s i ∧ bAt s i ≤ 126) ∧ 1 ≤ s.size ∧ s.size ≤ 8
instance (s : ByteArray) : Decidable (NameOk s) := by unfold NameOk; infer_instance
theorem ref_Name_eq (s : ByteArray) (hs : s.size ≤ 1000000000000000) : ur07_Name s = some (decide (NameOk s)) := by
 unfold ur07_Name
 rw [loop_all s.size hs (fun i => 33 ≤ bAt s i ∧ bAt s i ≤ 126) false () (fun i hi => ?_) (by simp [ur07_Name_L1])]
 ·by_cases h : ∀ i : Nat, i < s.size → 33 ≤ bAt s i ∧ bAt s i ≤ 126
  ·rw [if_pos h]
   refine sd ?_
   simp only [NameOk, Bool.and_eq_true, decide_eq_true_eq]
   exact ⟨fun k => ⟨h, by omega, by omega⟩, fun k => ⟨by omega, by omega⟩⟩
  ·rw [if_neg h, decide_eq_false (p := NameOk s) (fun k => h k.1)]; rfl
 ·simp only [ur07_Name_L1, bix_of hi, Option.bind]
  rw [if_pos (by simp; omega)]
  simp only [wr_succ (show i < 1000000000000000 by omega)]
  by_cases h1 : bAt s i < 33
  ·rw [gd_f (by rw [decide_eq_true h1]; decide)]
   simp only []
   rw [if_pos (by rw [decide_eq_true h1]; rfl), if_neg (by omega)]
  ·rw [gd_t (by rw [decide_eq_false h1])]
   simp only []
   by_cases h2 : 126 < bAt s i
   ·rw [if_pos (by rw [decide_eq_true h2]; simp), if_neg (by omega)]
   ·rw [if_neg (by rw [decide_eq_false h1, decide_eq_false h2]; decide), if_pos (by omega)]
theorem field_Name_eq (s : ByteArray) (hs : s.size ≤ 1000000000000000) : field_Name s = some (decide (NameOk s)) := by
 unfold field_Name
 rw [loop_all s.size hs (fun i => 33 ≤ bAt s i ∧ bAt s i ≤ 126) false () (fun i hi => ?_) (by simp [field_Name_L1])]
 ·by_cases h : ∀ i : Nat, i < s.size → 33 ≤ bAt s i ∧ bAt s i ≤ 126
  ·rw [if_pos h]
   refine sd ?_
   simp only [NameOk, Bool.and_eq_true, decide_eq_true_eq]
   exact ⟨fun k => ⟨h, by omega, by omega⟩, fun k => ⟨by omega, by omega⟩⟩
  ·rw [if_neg h, decide_eq_false (p := NameOk s) (fun k => h k.1)]; rfl
 ·simp only [field_Name_L1, bix_of hi, Option.bind]
  rw [if_pos (by simp; omega)]
  simp only [wr_succ (show i < 1000000000000000 by omega)]
  by_cases h1 : bAt s i < 33
  ·rw [gd_f (by rw [decide_eq_true h1]; decide)]
   simp only []
   rw [if_pos (by rw [decide_eq_true h1]; rfl), if_neg (by omega)]
  ·rw [gd_t (by rw [decide_eq_false h1])]
   simp only []
   by_cases h2 : 126 < bAt s i
   ·rw [if_pos (by rw [decide_eq_true h2]; simp), if_neg (by omega)]
   ·rw [if_neg (by rw [decide_eq_false h1, decide_eq_false h2]; decide), if_pos (by omega)]

def cnt (x : Int) : Prop := 0 ≤ x ∧ IsN x
instance (x : Int) : Decidable (cnt x) := by unfold cnt; infer_instance
def LOk (l : TLock) : Prop := cnt l.Seq ∧ cnt l.Ver ∧ 0 ≤ l.Holder ∧ l.Holder ≤ 15 ∧ IsN l.Value
instance (l : TLock) : Decidable (LOk l) := by unfold LOk; infer_instance
theorem ref05_Right_eq (l : TLock) : ur05_Right l = some (decide (LOk l)) := by
 unfold ur05_Right
 simp only [ref_Is_eq, gd_and, letM_eq, Option.bind]
 refine sd ?_
 simp only [Bool.and_eq_true, Bool.if_false_right, decide_eq_true_eq]
 unfold LOk cnt IsN
 omega

def zeroC : aJ := ⟨0, 0, 0, default, default⟩
def zeroL : TLock := ⟨0, 0, 0, 0⟩
def FOk (f : aB) : Prop := NameOk f.Name ∧ cnt f.Epoch ∧ ((f.Kind = 1 ∧ COk f.Counter ∧ Rts f.Holds ∧ f.Lock = zeroL) ∨ (f.Kind = 2 ∧ LOk f.Lock ∧ f.Holds = [] ∧ f.Counter = zeroC))
instance (f : aB) : Decidable (FOk f) := by unfold FOk; infer_instance
theorem ref07_Right_eq (f : aB) (hs : f.Name.size ≤ 1000000000000000) (hh : f.Holds.length ≤ 1000000000000) : ur07_Right f = some (decide (FOk f)) := by
 unfold ur07_Right
 simp only [ref_Name_eq _ hs, ref_Is_eq, Option.bind, gd_nb, letM_eq, ref04_Right_eq, ref_Rights_eq f.Holds (by omega), ref05_Right_eq]
 by_cases h : NameOk f.Name ∧ cnt f.Epoch
 ·obtain ⟨h1, h2⟩ := h
  have h3 : ¬ f.Epoch < 0 := by unfold cnt at h2; omega
  rw [if_neg (by simp [h1, h2.2, h3])]
  by_cases hk : f.Kind = 1
  ·rw [if_pos (by simp [hk])]
   refine sd ?_
   simp only [Bool.and_eq_true, decide_eq_true_eq, Bool.if_false_right]
   unfold FOk
   constructor
   ·rintro ⟨⟨a, b, c⟩, d⟩
    exact ⟨h1, h2, .inl ⟨hk, a, c, d⟩⟩
   ·rintro ⟨_, _, ⟨_, a, b, c⟩ | ⟨a, _⟩⟩
    ·exact ⟨⟨a, a, b⟩, c⟩
    ·omega
  ·rw [if_neg (by simp [hk])]
   refine sd ?_
   simp only [Bool.and_eq_true, decide_eq_true_eq, Bool.if_false_right]
   unfold FOk
   have hz : ((f.Holds.length : Int) = 0) ↔ f.Holds = [] := by
    rw [← List.length_eq_zero_iff]; omega
   rw [hz]
   constructor
   ·rintro ⟨⟨⟨a, a', b⟩, c⟩, d⟩
    exact ⟨h1, h2, .inr ⟨a, b, c, d⟩⟩
   ·rintro ⟨_, _, ⟨a, _⟩ | ⟨a, b, c, d⟩⟩
    ·omega
    ·exact ⟨⟨⟨a, a, b⟩, c⟩, d⟩
 ·have hn : ¬ FOk f := fun k => h ⟨k.1, k.2.1⟩
  rw [if_pos, decide_eq_false hn]
  by_cases h1 : NameOk f.Name <;> by_cases h2 : f.Epoch < 0 <;> by_cases h3 : IsN f.Epoch <;> simp [h1, h2, h3]
  exact h ⟨h1, by unfold cnt; exact ⟨by omega, h3⟩⟩
def only (d : Int) : Vector Int 16 := (default : Vector Int 16).set 0 d
def newC (i l h : Int) : aJ := ⟨i, l, h, ⟨only (i - l), default, default⟩, ⟨only (h - i), default, default⟩⟩
def NewOk (i l h : Int) : Prop := IsN i ∧ IsN l ∧ IsN h ∧ l ≤ i ∧ i ≤ h ∧ IsN (h - l)
instance (i l h : Int) : Decidable (NewOk i l h) := by unfold NewOk; infer_instance
theorem counter_New_eq (i l h : Int) : counter_New i l h = some (if NewOk i l h then (newC i l h, 0) else (zeroC, 2)) := by
 unfold counter_New
 simp only [num_Sub_eq, letM_eq, Option.bind]
 by_cases hn : NewOk i l h
 ·have hn' := hn
  unfold NewOk IsN at hn'
  have e1 : subS i l = (i - l, 0) := by unfold subS; rw [if_pos ⟨hn.1, hn.2.1, by unfold IsN; omega⟩]
  have e2 : subS h i = (h - i, 0) := by unfold subS; rw [if_pos ⟨hn.2.2.1, hn.1, by unfold IsN; omega⟩]
  have e3 : subS h l = (h - l, 0) := by unfold subS; rw [if_pos ⟨hn.2.2.1, hn.2.1, hn.2.2.2.2.2⟩]
  rw [e1, e2, e3, if_neg (by simp; omega), if_pos hn]
  rfl
 ·rw [if_neg hn, if_pos]
  ·rfl
  ·by_cases h1 : (subS i l).2 = 0
   ·by_cases h2 : (subS h i).2 = 0
    ·by_cases h3 : (subS h l).2 = 0
     ·have g1 : IsN i ∧ IsN l ∧ IsN (i - l) := Classical.byContradiction fun k => by unfold subS at h1; rw [if_neg k] at h1; cases h1
      have g2 : IsN h ∧ IsN i ∧ IsN (h - i) := Classical.byContradiction fun k => by unfold subS at h2; rw [if_neg k] at h2; cases h2
      have g3 : IsN h ∧ IsN l ∧ IsN (h - l) := Classical.byContradiction fun k => by unfold subS at h3; rw [if_neg k] at h3; cases h3
      have e1 : subS i l = (i - l, 0) := by unfold subS; rw [if_pos g1]
      have e2 : subS h i = (h - i, 0) := by unfold subS; rw [if_pos g2]
      rw [e1, e2]
      have : i - l < 0 ∨ h - i < 0 := Classical.byContradiction fun k => hn ⟨g1.1, g1.2.1, g2.1, by omega, by omega, g3.2.2⟩
      rcases this with k | k <;> simp [k]
     ·simp [h3]
    ·simp [h2]
   ·simp [h1]

theorem only_list (d : Int) : (only d).toList = d :: List.replicate 15 0 := rfl
theorem zero_list : (default : Vector Int 16).toList = List.replicate 16 0 := rfl
theorem sum_zeros : ∀ (k : Nat) (n : Int), IsN n → sumO n (List.replicate k 0) = some n
 | 0, n, _ => rfl
 | k + 1, n, h => by
  have e : addS n 0 = (n, 0) := by unfold addS; rw [if_pos ⟨h, by unfold IsN; omega, by simpa using h⟩]; simp
  rw [List.replicate_succ, sumO, e, if_pos rfl]
  exact sum_zeros k n h
theorem sum_only {d : Int} (h : IsN d) : sumS (only d).toList = (d, 0) := by
 have e : addS 0 d = (d, 0) := by unfold addS; rw [if_pos ⟨by unfold IsN; omega, h, by simpa using h⟩]; simp
 unfold sumS
 rw [only_list, sumO, e, if_pos rfl, sum_zeros 15 d h]
theorem sum_zero : sumS (default : Vector Int 16).toList = (0, 0) := by
 unfold sumS
 rw [zero_list, sum_zeros 16 0 (by unfold IsN; omega)]
theorem VOk_zero : VOk (default : Vector Int 16) := by decide
theorem zrows : ∀ k : Fin 16, VOk ((default : Vector (Vector Int 16) 16).get k) ∧ ((default : Vector (Vector Int 16) 16).get k).get k = 0 := by decide
theorem ROk_only {d : Int} (h0 : 0 ≤ d) (h1 : IsN d) : ROk ⟨only d, default, default⟩ := by
 refine ⟨fun k => ?_, VOk_zero, zrows⟩
 show 0 ≤ (only d).get k ∧ (only d).get k ≤ 1099511627776
 have : (only d).get k = if k.1 = 0 then d else 0 := by
  rcases k with ⟨k, hk⟩
  match k, hk with
  | 0, _ => rfl
  | 1, _ => rfl
  | 2, _ => rfl
  | 3, _ => rfl
  | 4, _ => rfl
  | 5, _ => rfl
  | 6, _ => rfl
  | 7, _ => rfl
  | 8, _ => rfl
  | 9, _ => rfl
  | 10, _ => rfl
  | 11, _ => rfl
  | 12, _ => rfl
  | 13, _ => rfl
  | 14, _ => rfl
  | 15, _ => rfl
  | n + 16, hk => exact absurd hk (by omega)
 rw [this]
 unfold IsN at h1
 split <;> omega
theorem gives_new {d : Int} (h : IsN d) : gives (only d) (default : Vector Int 16) d := by
 unfold gives
 rw [sum_only h, sum_zero]
 have e : addS d 0 = (d, 0) := by unfold addS; rw [if_pos ⟨h, by unfold IsN; omega, by simpa using h⟩]; simp
 simp only [e]
 exact ⟨trivial, trivial, trivial, trivial⟩
theorem COk_new {i l h : Int} (hn : NewOk i l h) : COk (newC i l h) := by
 have hn' := hn
 unfold NewOk IsN at hn'
 have d1 : IsN (i - l) := by unfold IsN; omega
 have d2 : IsN (h - i) := by unfold IsN; omega
 exact ⟨hn.1, hn.2.1, hn.2.2.1, hn.2.2.2.1, hn.2.2.2.2.1, ROk_only (by omega) d1, ROk_only (by omega) d2, gives_new d1, gives_new d2⟩

def LNewOk (k v : Int) : Prop := (0 ≤ k ∧ k < 16) ∧ IsN v
instance (k v : Int) : Decidable (LNewOk k v) := by unfold LNewOk; infer_instance
theorem lock_is_eq (k : Int) : lock_is k = some (decide (0 ≤ k ∧ k < 16)) := sd (by simp)
def set16 (v : Vector Int 16) (i : Nat) (x : Int) : Vector Int 16 := if h : i < 16 then v.set i x h else v
def setRow (m : Vector (Vector Int 16) 16) (i : Nat) (x : Vector Int 16) : Vector (Vector Int 16) 16 := if h : i < 16 then m.set i x h else m
def growS (v : Vector Int 16) (k n : Int) : Vector Int 16 × Int :=
 if 0 ≤ k ∧ k < 16 ∧ 0 ≤ n then (if (addS (at16 v k.toNat) n).2 = 0 then (set16 v k.toNat (addS (at16 v k.toNat) n).1, 0) else (default, (addS (at16 v k.toNat) n).2)) else (default, 1)
def giveS (r : TRights) (k n : Int) : TRights × Int := if (growS r.Given k n).2 = 0 then ({ r with Given := (growS r.Given k n).1 }, 0) else (default, (growS r.Given k n).2)
def enoughS (r : TRights) (k n : Int) : Int := if n < 0 then 1 else if (freeS r k).2 = 0 then (if (freeS r k).1 < n then 8 else 0) else (freeS r k).2
def useS (r : TRights) (k n : Int) : TRights × Int :=
 if enoughS r k n = 0 then (if (growS r.Used k n).2 = 0 then ({ r with Used := (growS r.Used k n).1 }, 0) else (default, (growS r.Used k n).2)) else (default, enoughS r k n)
def decS (c : aJ) (k n : Int) : aJ × Int :=
 if (useS c.Down k n).2 = 0 then (if (giveS c.Up k n).2 = 0 then ({ c with Down := (useS c.Down k n).1, Up := (giveS c.Up k n).1 }, 0) else (default, (giveS c.Up k n).2)) else (default, (useS c.Down k n).2)
theorem vec_Sum_eq (v : Vector Int 16) : vec_Sum v = some (sumS v.toList) := by
 unfold vec_Sum
 rw [num_Sum_eq _ (by simp)]; rfl
theorem counter_given_eq (a b : TRights) (room : Int) : counter_given a b room = some (decide (gives a.Given b.Used room)) := by
 unfold counter_given
 simp only [vec_Sum_eq, num_Add_eq, Option.bind, letM_eq]
 refine sd ?_
 simp only [Bool.and_eq_true, decide_eq_true_eq, and_assoc]
 exact Iff.rfl
theorem counter_Right_eq (c : aJ) : counter_Right c = some (decide (COk c)) := by
 unfold counter_Right
 simp only [num_Is_eq, rights_Right_eq, counter_given_eq, Option.bind, gd_nb, letM_eq]
 by_cases h : IsN c.Init ∧ IsN c.Low ∧ IsN c.High ∧ c.Low ≤ c.Init ∧ c.Init ≤ c.High
 ·obtain ⟨h1, h2, h3, h4, h5⟩ := h
  have w1 : wr .i64 (c.Init - c.Low) = c.Init - c.Low := wr_id (by unfold IsN at *; omega)
  have w2 : wr .i64 (c.High - c.Init) = c.High - c.Init := wr_id (by unfold IsN at *; omega)
  rw [if_neg (by simp [h1, h2, h3]; omega), w1, w2]
  refine sd ?_
  simp only [Bool.and_eq_true, decide_eq_true_eq, Bool.if_false_right]
  unfold COk
  constructor
  ·rintro ⟨⟨⟨a, b⟩, _, d⟩, e⟩
   simp_all
  ·rintro ⟨_, _, _, _, _, a, b, d, e⟩
   simp_all
 ·have hn : ¬ COk c := fun k => h ⟨k.1, k.2.1, k.2.2.1, k.2.2.2.1, k.2.2.2.2.1⟩
  rw [if_pos, decide_eq_false hn]
  by_cases h1 : IsN c.Init <;> by_cases h2 : IsN c.Low <;> by_cases h3 : IsN c.High <;> by_cases h4 : c.Init < c.Low <;> by_cases h5 : c.High < c.Init <;> simp [h1, h2, h3, h4, h5]
  exact h ⟨h1, h2, h3, by omega, by omega⟩
theorem lock_Right_eq (l : TLock) : lock_Right l = some (decide (LOk l)) := by
 have h1 : ∀ n, lock_Right_1 n = some (decide (cnt n)) := fun n => by
  unfold lock_Right_1
  simp only [num_Is_eq, Option.bind, gd_nb, letM_eq]
  refine sd ?_
  simp only [Bool.and_eq_true, decide_eq_true_eq, Bool.if_false_right]
  unfold cnt
  constructor
  ·rintro ⟨a, _, b⟩; exact ⟨a, b⟩
  ·rintro ⟨a, b⟩; exact ⟨a, a, b⟩
 have h2 : ∀ k, lock_is k = some (decide (0 ≤ k ∧ k < 16)) := fun k => sd (by simp)
 unfold lock_Right
 simp only [h1, h2, num_Is_eq, Option.bind, gd_nb, letM_eq]
 refine sd ?_
 simp only [Bool.and_eq_true, decide_eq_true_eq, Bool.if_false_right]
 unfold LOk
 constructor
 ·rintro ⟨⟨⟨a, _, b⟩, _, d⟩, e⟩
  have e2 := e.2
  exact ⟨a, b, d.1, by omega, e2⟩
 ·rintro ⟨a, b, d, e, f⟩
  have e2 : l.Holder < 16 := by omega
  simp [a, b, d, e2, f]
theorem field_Right_eq (f : aB) (hs : f.Name.size ≤ 1000000000000000) (hh : f.Holds.length ≤ 1000000000000) : field_Right f = some (decide (FOk f)) := by
 unfold field_Right
 simp only [field_Name_eq _ hs, num_Is_eq, Option.bind, gd_nb, letM_eq, counter_Right_eq, hold_Rights_eq f.Holds (by omega), lock_Right_eq]
 by_cases h : NameOk f.Name ∧ cnt f.Epoch
 ·obtain ⟨h1, h2⟩ := h
  have h3 : ¬ f.Epoch < 0 := by unfold cnt at h2; omega
  rw [if_neg (by simp [h1, h2.2, h3])]
  by_cases hk : f.Kind = 1
  ·rw [if_pos (by simp [hk])]
   refine sd ?_
   simp only [Bool.and_eq_true, decide_eq_true_eq, Bool.if_false_right]
   unfold FOk
   constructor
   ·rintro ⟨⟨a, b, c⟩, d⟩
    exact ⟨h1, h2, .inl ⟨hk, a, c, d⟩⟩
   ·rintro ⟨_, _, ⟨_, a, b, c⟩ | ⟨a, _⟩⟩
    ·exact ⟨⟨a, a, b⟩, c⟩
    ·omega
  ·rw [if_neg (by simp [hk])]
   have hz : ((f.Holds.length : Int) = 0) ↔ f.Holds = [] := by
    rw [← List.length_eq_zero_iff]; omega
   by_cases hk2 : f.Kind = 2
   ·rw [if_pos (by simp [hk2])]
    refine sd ?_
    simp only [Bool.and_eq_true, decide_eq_true_eq, Bool.if_false_right]
    unfold FOk
    rw [hz]
    constructor
    ·rintro ⟨⟨a, b⟩, d⟩
     exact ⟨h1, h2, .inr ⟨hk2, a, b, d⟩⟩
    ·rintro ⟨_, _, ⟨a, _⟩ | ⟨a, b, c, d⟩⟩
     ·omega
     ·exact ⟨⟨b, c⟩, d⟩
   ·rw [if_neg (by simp [hk2]), decide_eq_false]
    rintro ⟨_, _, ⟨a, _⟩ | ⟨a, _⟩⟩ <;> contradiction
 ·have hn : ¬ FOk f := fun k => h ⟨k.1, k.2.1⟩
  rw [if_pos, decide_eq_false hn]
  by_cases h1 : NameOk f.Name <;> by_cases h2 : f.Epoch < 0 <;> by_cases h3 : IsN f.Epoch <;> simp [h1, h2, h3]
  exact h ⟨h1, by unfold cnt; exact ⟨by omega, h3⟩⟩

def viewS (f : aB) : Int × Int := if f.Kind = 1 then sumS (valL f.Counter) else if f.Kind = 2 then (f.Lock.Value, 0) else (0, 17)
theorem field_View_eq (f : aB) : field_View f = some (viewS f) := by
 unfold field_View viewS
 simp only [counter_Value_eq, Option.bind]
 by_cases h : f.Kind = 1
 ·rw [if_pos (by simp [h]), if_pos h]
 ·rw [if_neg (by simp [h]), if_neg h]
  by_cases h2 : f.Kind = 2
  ·rw [if_pos (by simp [h2]), if_pos h2]
  ·rw [if_neg (by simp [h2]), if_neg h2]
theorem ref07_View_eq (f : aB) : ur07_View f = some (viewS f) := by
 unfold ur07_View viewS
 simp only [ref04_Value_eq, Option.bind]
 by_cases h : f.Kind = 1
 ·rw [if_pos (by simp [h]), if_pos h]
 ·rw [if_neg (by simp [h]), if_neg h]
  by_cases h2 : f.Kind = 2
  ·rw [if_pos (by simp [h2]), if_pos h2]
  ·rw [if_neg (by simp [h2]), if_neg h2]

def looseS (f : aB) (k : Int) : Int × Int := if f.Kind = 1 then (wr .i64 ((freeS f.Counter.Down k).1 - SumS f.Holds k), (freeS f.Counter.Up k).1) else (0, 0)
theorem Few7_eq (ls : List aB) (hl : ls.length ≤ 1000000000000000) : ul07_Few ls = some (decide (∀ f ∈ ls, f.Name.size ≤ 100 ∧ f.Holds.length ≤ 40)) := by
 unfold ul07_Few
 rw [loop_all ls.length hl (fun i => (ls.getD i default).Name.size ≤ 100 ∧ (ls.getD i default).Holds.length ≤ 40) false () (fun i hi => ?_) (by simp [-List.getD_eq_getElem?_getD, ul07_Few_L1])]
 ·by_cases h : ∀ f ∈ ls, f.Name.size ≤ 100 ∧ f.Holds.length ≤ 40
  ·rw [if_pos (fun i hi => h _ (by simp [List.getD, hi]))]
   rw [decide_eq_true h]; rfl
  ·rw [if_neg (fun h2 => h fun f hx => by obtain ⟨i, hi, rfl⟩ := List.getElem_of_mem hx; simpa [List.getD, hi] using h2 i hi)]
   rw [decide_eq_false h]; rfl
 ·simp only [ul07_Few_L1, six_of hi, letM_eq, Option.bind]
  rw [if_pos (by simp; omega)]
  simp only [wr_succ (show i < 1000000000000000 by omega)]
  by_cases h : (ls.getD i default).Name.size ≤ 100 ∧ (ls.getD i default).Holds.length ≤ 40
  ·rw [if_neg (by simp only [Bool.or_eq_true, decide_eq_true_eq]; omega), if_pos h]
  ·rw [if_pos (by simp only [Bool.or_eq_true, decide_eq_true_eq]; omega), if_neg h]
theorem zeroF : (⟨(default : ByteArray), 0, 0, (default : aJ), (default : TLock), ([] : List THold)⟩ : aB) = default := rfl
def withS (f : aB) (c : aJ × Int) : aB × Int := if c.2 = 0 then ({ f with Counter := c.1 }, 0) else (default, c.2)
def endFd (f : aB) (k n st : Int) : aB × Int :=
 if f.Kind = 1 then (if (EndS f.Holds k n st).2.2 = 0 then (if st = 2 then withS { f with Holds := (EndS f.Holds k n st).1 } (decS f.Counter k (EndS f.Holds k n st).2.1) else ({ f with Holds := (EndS f.Holds k n st).1 }, 0)) else (default, (EndS f.Holds k n st).2.2)) else (default, 17)
theorem vget_set {α : Type} {n : Nat} (v : Vector α n) (i : Nat) (hi : i < n) (x : α) (k : Fin n) : (v.set i x hi).get k = if i = k.val then x else v.get k := by
 show (v.set i x hi)[k.val] = _
 rw [Vector.getElem_set]; rfl
theorem vext {α : Type} {n : Nat} {a b : Vector α n} (h : ∀ k : Fin n, a.get k = b.get k) : a = b := Vector.ext fun i hi => h ⟨i, hi⟩
theorem vofn {α : Type} {n : Nat} (f : Fin n → α) (k : Fin n) : (Vector.ofFn f).get k = f k := by
 show (Vector.ofFn f)[k.val] = _
 rw [Vector.getElem_ofFn]
/-- The first ones are done. -/
def partV {α : Type} {n : Nat} (f : Fin n → α) (v : Vector α n) (i : Nat) : Vector α n := Vector.ofFn fun k => if k.val < i then f k else v.get k
theorem partV_zero {α : Type} {n : Nat} (f : Fin n → α) (v : Vector α n) : partV f v 0 = v := vext fun k => by unfold partV; rw [vofn, if_neg (by omega)]
theorem partV_full {α : Type} {n : Nat} (f : Fin n → α) (v : Vector α n) : partV f v n = Vector.ofFn f := vext fun k => by unfold partV; rw [vofn, vofn, if_pos k.2]
theorem partV_get {α : Type} {n : Nat} (f : Fin n → α) (v : Vector α n) (i : Nat) (hi : i < n) : (partV f v i).get ⟨i, hi⟩ = v.get ⟨i, hi⟩ := by unfold partV; rw [vofn, if_neg (by simp)]
theorem partV_set {α : Type} {n : Nat} (f : Fin n → α) (v : Vector α n) (i : Nat) (hi : i < n) : (partV f v i).set i (f ⟨i, hi⟩) hi = partV f v (i + 1) := vext fun k => by
 rw [vget_set]
 unfold partV
 rw [vofn, vofn]
 by_cases h : i = k.val
 ·subst h; rw [if_pos rfl, if_pos (by omega)]
 ·rw [if_neg h]
  by_cases h2 : k.val < i
  ·rw [if_pos h2, if_pos (by omega)]
  ·rw [if_neg h2, if_neg (by omega)]

def joinV (a b : Vector Int 16) : Vector Int 16 := Vector.ofFn fun k => max (a.get k) (b.get k)
theorem vec_Join_eq (a b : Vector Int 16) : vec_Join a b = some (joinV a b) := by
 unfold vec_Join
 rw [loopM_eq (q := joinV a b) (fun i s => s = ((i : Int), partV (fun k => max (a.get k) (b.get k)) a i)) 16 (by omega) ?_ ?_ (by rw [partV_zero]; rfl)]
 ·rfl
 ·rintro i s hi rfl
  refine .inl ⟨_, ?_, rfl⟩
  simp only [vec_Join_L1, fix_of hi, letM_eq, Option.bind, partV_get _ _ _ hi, wr_succ (show i < 1000000000000000 by omega)]
  rw [if_pos (by simp; omega), partV_set (fun k => max (a.get k) (b.get k)) a i hi]
 ·rintro s rfl
  simp only [vec_Join_L1]
  rw [if_neg (by simp), partV_full]; rfl
theorem ref02_Join_eq (a b : Vector Int 16) : ur02_Join a b = some (joinV a b) := by
 unfold ur02_Join
 rw [loopM_eq (q := joinV a b) (fun i s => s = ((i : Int), partV (fun k => max (a.get k) (b.get k)) default i)) 16 (by omega) ?_ ?_ (by rw [partV_zero]; rfl)]
 ·rfl
 ·rintro i s hi rfl
  refine .inl ⟨_, ?_, rfl⟩
  simp only [ur02_Join_L1, fix_of hi, letM_eq, Option.bind, wr_succ (show i < 1000000000000000 by omega)]
  rw [if_pos (by simp; omega), ← partV_set (fun k => max (a.get k) (b.get k)) default i hi]
  by_cases h : a.get ⟨i, hi⟩ < b.get ⟨i, hi⟩
  ·rw [if_pos (by simp [h]), show max (a.get ⟨i, hi⟩) (b.get ⟨i, hi⟩) = b.get ⟨i, hi⟩ by omega]
   congr 3
   refine vext fun k => ?_
   rw [vget_set, vget_set, vget_set]
   split <;> rfl
  ·rw [if_neg (by simpa using h), show max (a.get ⟨i, hi⟩) (b.get ⟨i, hi⟩) = a.get ⟨i, hi⟩ by omega]
 ·rintro s rfl
  simp only [ur02_Join_L1]
  rw [if_neg (by simp), partV_full]; rfl

def joinR (a b : TRights) : TRights := ⟨joinV a.Given b.Given, joinV a.Used b.Used, Vector.ofFn fun k => joinV (a.Moved.get k) (b.Moved.get k)⟩
theorem rights_Join_eq (a b : TRights) : rights_Join a b = some (joinR a b) := by
 unfold rights_Join rights_Join_1 rights_Join_1_2
 simp only [vec_Join_eq, letM_eq, Option.bind]
 rw [loopM_eq (q := joinR a b) (fun i s => s = ((i : Int), (⟨joinV a.Given b.Given, joinV a.Used b.Used, partV (fun k => joinV (a.Moved.get k) (b.Moved.get k)) a.Moved i⟩ : TRights))) 16 (by omega) ?_ ?_ (by rw [partV_zero]; rfl)]
 ·rintro i s hi rfl
  refine .inl ⟨_, ?_, rfl⟩
  simp only [rights_Join_L1, rights_Join_1_3, vec_Join_eq, fix_of hi, letM_eq, Option.bind, partV_get _ _ _ hi, wr_succ (show i < 1000000000000000 by omega)]
  rw [if_pos (by simp; omega), partV_set (fun k => joinV (a.Moved.get k) (b.Moved.get k)) a.Moved i hi]
 ·rintro s rfl
  simp only [rights_Join_L1]
  rw [if_neg (by simp), partV_full]; rfl
theorem ref03_Join_eq (a b : TRights) : ur03_Join a b = some (joinR a b) := by
 unfold ur03_Join
 simp only [ref02_Join_eq, letM_eq, Option.bind]
 rw [loopM_eq (q := joinR a b) (fun i s => s = ((i : Int), (⟨joinV a.Given b.Given, joinV a.Used b.Used, partV (fun k => joinV (a.Moved.get k) (b.Moved.get k)) default i⟩ : TRights))) 16 (by omega) ?_ ?_ (by rw [partV_zero]; rfl)]
 ·rintro i s hi rfl
  refine .inl ⟨_, ?_, rfl⟩
  simp only [ur03_Join_L1, ref02_Join_eq, fix_of hi, letM_eq, Option.bind, wr_succ (show i < 1000000000000000 by omega)]
  rw [if_pos (by simp; omega), partV_set (fun k => joinV (a.Moved.get k) (b.Moved.get k)) default i hi]
 ·rintro s rfl
  simp only [ur03_Join_L1]
  rw [if_neg (by simp), partV_full]; rfl

def joinC (a b : aJ) : aJ × Int := if a.Init = b.Init ∧ a.Low = b.Low ∧ a.High = b.High then ({ a with Down := joinR a.Down b.Down, Up := joinR a.Up b.Up }, 0) else (default, 1)
theorem counter_Join_eq (a b : aJ) : counter_Join a b = some (joinC a b) := by
 unfold counter_Join joinC
 simp only [rights_Join_eq, letM_eq, Option.bind]
 by_cases h : a.Init = b.Init ∧ a.Low = b.Low ∧ a.High = b.High
 ·rw [if_neg (by simp [h.1, h.2.1, h.2.2]), if_pos h]
 ·rw [if_pos, if_neg h]
  ·rfl
  ·simp only [Bool.or_eq_true, Bool.not_eq_true', decide_eq_false_iff_not]
   exact Classical.byContradiction fun k => h (by simp only [not_or, Classical.not_not] at k; exact ⟨k.1.1, k.1.2, k.2⟩)
theorem ref04_Join_eq (a b : aJ) : ur04_Join a b = some (joinC a b) := by
 unfold ur04_Join joinC
 simp only [ref03_Join_eq, letM_eq, Option.bind]
 by_cases h : a.Init = b.Init ∧ a.Low = b.Low ∧ a.High = b.High
 ·rw [if_neg (by simp [h.1, h.2.1, h.2.2]), if_pos h]
 ·rw [if_pos, if_neg h]
  ·rfl
  ·simp only [Bool.or_eq_true, Bool.not_eq_true', decide_eq_false_iff_not]
   exact Classical.byContradiction fun k => h (by simp only [not_or, Classical.not_not] at k; exact ⟨k.1.1, k.1.2, k.2⟩)

def LLt (a b : TLock) : Prop := a.Seq < b.Seq ∨ (a.Seq = b.Seq ∧ (a.Ver < b.Ver ∨ (a.Ver = b.Ver ∧ (a.Holder < b.Holder ∨ (a.Holder = b.Holder ∧ a.Value < b.Value)))))
instance (a b : TLock) : Decidable (LLt a b) := by unfold LLt; infer_instance
def joinL (a b : TLock) : TLock := if LLt a b then b else a
def lockCmp (a b : TLock) : Int := if a.Seq = b.Seq then (if a.Ver = b.Ver then (if a.Holder = b.Holder then (if a.Value = b.Value then 0 else if b.Value < a.Value then 1 else -1) else if b.Holder < a.Holder then 1 else -1) else if b.Ver < a.Ver then 1 else -1) else if b.Seq < a.Seq then 1 else -1
theorem lock_Compare_eq (a b : TLock) : lock_Compare a b = some (lockCmp a b) := by
 have e0 : fix_ 2 0 = some (0 : Fin 2) := rfl
 have e1 : fix_ 2 1 = some (1 : Fin 2) := rfl
 have f0 : fix_ 4 0 = some (0 : Fin 4) := rfl
 have f1 : fix_ 4 1 = some (1 : Fin 4) := rfl
 have f2 : fix_ 4 2 = some (2 : Fin 4) := rfl
 have f3 : fix_ 4 3 = some (3 : Fin 4) := rfl
 have w0 : wr .i64 1 = 1 := by decide
 have w1 : wr .i64 2 = 2 := by decide
 have w2 : wr .i64 3 = 3 := by decide
 have w3 : wr .i64 4 = 4 := by decide
 have v0 : ∀ x y : Int, (#v[x, y] : Vector Int 2).get 0 = x := fun _ _ => rfl
 have v1 : ∀ x y : Int, (#v[x, y] : Vector Int 2).get 1 = y := fun _ _ => rfl
 have u0 : ∀ x y z t : Vector Int 2, (#v[x, y, z, t] : Vector (Vector Int 2) 4).get 0 = x := fun _ _ _ _ => rfl
 have u1 : ∀ x y z t : Vector Int 2, (#v[x, y, z, t] : Vector (Vector Int 2) 4).get 1 = y := fun _ _ _ _ => rfl
 have u2 : ∀ x y z t : Vector Int 2, (#v[x, y, z, t] : Vector (Vector Int 2) 4).get 2 = z := fun _ _ _ _ => rfl
 have u3 : ∀ x y z t : Vector Int 2, (#v[x, y, z, t] : Vector (Vector Int 2) 4).get 3 = t := fun _ _ _ _ => rfl
 have h0 : lock_Compare_L1 a b 0 = if a.Seq = b.Seq then some (.inl 1) else if b.Seq < a.Seq then some (.inr (.inr 1)) else some (.inr (.inr (-1))) := by
  unfold lock_Compare_L1; simp [e0, e1, f0, letM, w0, v0, v1, u0]
 have h1 : lock_Compare_L1 a b 1 = if a.Ver = b.Ver then some (.inl 2) else if b.Ver < a.Ver then some (.inr (.inr 1)) else some (.inr (.inr (-1))) := by
  unfold lock_Compare_L1; simp [e0, e1, f1, letM, w1, v0, v1, u1]
 have h2 : lock_Compare_L1 a b 2 = if a.Holder = b.Holder then some (.inl 3) else if b.Holder < a.Holder then some (.inr (.inr 1)) else some (.inr (.inr (-1))) := by
  unfold lock_Compare_L1; simp [e0, e1, f2, letM, w2, v0, v1, u2]
 have h3 : lock_Compare_L1 a b 3 = if a.Value = b.Value then some (.inl 4) else if b.Value < a.Value then some (.inr (.inr 1)) else some (.inr (.inr (-1))) := by
  unfold lock_Compare_L1; simp [e0, e1, f3, letM, w3, v0, v1, u3]
 have h4 : lock_Compare_L1 a b 4 = some (.inr (.inl ())) := by unfold lock_Compare_L1; simp
 unfold lock_Compare lockCmp
 have hf : fuel = 1180591620717411303419 + 5 := rfl
 rw [hf]
 by_cases c0 : a.Seq = b.Seq
 ·by_cases c1 : a.Ver = b.Ver
  ·by_cases c2 : a.Holder = b.Holder
   ·by_cases c3 : a.Value = b.Value
    ·simp [loopM, h0, h1, h2, h3, h4, c0, c1, c2, c3, onS]
    ·by_cases d : b.Value < a.Value <;> simp [loopM, h0, h1, h2, h3, c0, c1, c2, c3, d, onS]
   ·by_cases d : b.Holder < a.Holder <;> simp [loopM, h0, h1, h2, c0, c1, c2, d, onS]
  ·by_cases d : b.Ver < a.Ver <;> simp [loopM, h0, h1, c0, c1, d, onS]
 ·by_cases d : b.Seq < a.Seq <;> simp [loopM, h0, c0, d, onS]
theorem lockCmp_lt (a b : TLock) : lockCmp a b < 0 ↔ LLt a b := by
 unfold lockCmp LLt
 repeat' split
 all_goals omega
theorem lock_Join_eq (a b : TLock) : lock_Join a b = some (joinL a b) := by
 unfold lock_Join joinL
 rw [lock_Compare_eq]
 simp only [Option.bind]
 by_cases h : LLt a b
 ·rw [if_pos (by simpa using (lockCmp_lt a b).2 h), if_pos h]
 ·rw [if_neg (by simpa using fun k => h ((lockCmp_lt a b).1 k)), if_neg h]
theorem ref05_Behind_eq (a b : TLock) : ur05_Behind a b = some (decide (LLt b a)) := by
 unfold ur05_Behind LLt
 simp only [letM_eq]
 by_cases c0 : a.Seq = b.Seq
 ·rw [if_neg (by simp [c0])]
  by_cases c1 : a.Ver = b.Ver
  ·rw [if_neg (by simp [c1])]
   by_cases c2 : a.Holder = b.Holder
   ·rw [if_neg (by simp [c2])]
    exact sd (by simp only [decide_eq_true_eq]; omega)
   ·rw [if_pos (by simp [c2])]
    exact sd (by simp only [decide_eq_true_eq]; omega)
  ·rw [if_pos (by simp [c1])]
   exact sd (by simp only [decide_eq_true_eq]; omega)
 ·rw [if_pos (by simp [c0])]
  exact sd (by simp only [decide_eq_true_eq]; omega)
theorem ref05_Join_eq (a b : TLock) : ur05_Join a b = some (joinL a b) := by
 unfold ur05_Join joinL
 rw [ref05_Behind_eq]
 simp only [Option.bind]
 by_cases h : LLt a b <;> simp [h]

def joinF (a b : aB) : aB × Int :=
 if a.Name = b.Name ∧ a.Kind = b.Kind ∧ a.Epoch = b.Epoch then
  (if (joinC a.Counter b.Counter).2 = 0 then (if (JS a.Holds b.Holds).2 = 0 then ({ a with Counter := (joinC a.Counter b.Counter).1, Lock := joinL a.Lock b.Lock, Holds := (JS a.Holds b.Holds).1 }, 0) else (default, (JS a.Holds b.Holds).2)) else (default, (joinC a.Counter b.Counter).2))
 else (default, 1)
theorem field_Join_eq (a b : aB) (ha : a.Holds.length ≤ 1000000) (hb : b.Holds.length ≤ 1000000) : field_Join a b = some (joinF a b) := by
 unfold field_Join joinF
 simp only [counter_Join_eq, hold_Join_eq _ _ ha hb, lock_Join_eq, letM_eq, Option.bind, zeroF]
 by_cases h : a.Name = b.Name ∧ a.Kind = b.Kind ∧ a.Epoch = b.Epoch
 ·rw [if_neg (by simp [h.1, h.2.1, h.2.2]), if_pos h]
  by_cases h2 : (joinC a.Counter b.Counter).2 = 0
  ·rw [if_neg (by simp [h2]), if_pos h2]
   by_cases h3 : (JS a.Holds b.Holds).2 = 0
   ·rw [if_neg (by simp [h3]), if_pos h3]
   ·rw [if_pos (by simp [h3]), if_neg h3]
  ·rw [if_pos (by simp [h2]), if_neg h2]
 ·rw [if_neg h, if_pos]
  simp only [Bool.or_eq_true, Bool.not_eq_true', decide_eq_false_iff_not]
  exact Classical.byContradiction fun k => h (by simp only [not_or, Classical.not_not] at k; exact ⟨k.1.1, k.1.2, k.2⟩)
theorem ref07_Join_eq (a b : aB) (ha : a.Holds.length ≤ 1000000) (hb : b.Holds.length ≤ 1000000) : ur07_Join a b = some (joinF a b) := by
 unfold ur07_Join joinF
 simp only [ref04_Join_eq, ref_Join_eq _ _ ha hb, ref05_Join_eq, letM_eq, Option.bind, zeroF]
 by_cases h : a.Name = b.Name ∧ a.Kind = b.Kind ∧ a.Epoch = b.Epoch
 ·rw [if_neg (by simp [h.1, h.2.1, h.2.2]), if_pos h]
  by_cases h2 : (joinC a.Counter b.Counter).2 = 0
  ·rw [if_neg (by simp [h2]), if_pos h2]
   by_cases h3 : (JS a.Holds b.Holds).2 = 0
   ·rw [if_neg (by simp [h3]), if_pos h3]
   ·rw [if_pos (by simp [h3]), if_neg h3]
  ·rw [if_pos (by simp [h2]), if_neg h2]
 ·rw [if_neg h, if_pos]
  simp only [Bool.or_eq_true, Bool.not_eq_true', decide_eq_false_iff_not]
  exact Classical.byContradiction fun k => h (by simp only [not_or, Classical.not_not] at k; exact ⟨k.1.1, k.1.2, k.2⟩)
theorem joinF_zero {a b : aB} (h : (joinF a b).2 = 0) : (a.Name = b.Name ∧ a.Kind = b.Kind ∧ a.Epoch = b.Epoch) ∧ (joinC a.Counter b.Counter).2 = 0 ∧ (JS a.Holds b.Holds).2 = 0 ∧ joinF a b = ({ a with Counter := (joinC a.Counter b.Counter).1, Lock := joinL a.Lock b.Lock, Holds := (JS a.Holds b.Holds).1 }, 0) := by
 unfold joinF at h ⊢
 by_cases h1 : a.Name = b.Name ∧ a.Kind = b.Kind ∧ a.Epoch = b.Epoch
 ·rw [if_pos h1] at h ⊢
  by_cases h2 : (joinC a.Counter b.Counter).2 = 0
  ·rw [if_pos h2] at h ⊢
   by_cases h3 : (JS a.Holds b.Holds).2 = 0
   ·rw [if_pos h3]; exact ⟨h1, h2, h3, rfl⟩
   ·rw [if_neg h3] at h; exact (h3 h).elim
  ·rw [if_neg h2] at h; exact (h2 h).elim
 ·rw [if_neg h1] at h; cases h
def SaysP (v : Int) (f : aB) : Prop := FOk f ∧ (1 ≤ v ∧ v ≤ 3) ∧ (v = 3 ∨ f.Epoch = 0) ∧ (1 < v ∨ f.Holds = [])
instance (v : Int) (f : aB) : Decidable (SaysP v f) := by unfold SaysP; infer_instance
theorem links_gen {α : Type} [Inhabited α] {P : α → Prop} {R : α → α → Prop} (tr : ∀ {a b c : α}, R a b → R b c → R a c) (l : List α) :
  (∀ i, i < l.length → P (l.getD i default) ∧ (0 < i → R (l.getD (i - 1) default) (l.getD i default))) ↔ (∀ h ∈ l, P h) ∧ l.Pairwise R := by
 constructor
 ·intro h
  refine ⟨fun x hx => ?_, ?_⟩
  ·obtain ⟨i, hi, rfl⟩ := List.getElem_of_mem hx
   simpa [List.getD, hi] using (h i hi).1
  ·rw [List.pairwise_iff_getElem]
   intro i j hi hj hij
   induction j with
   | zero => omega
   | succ j ih =>
    have h1 := (h (j + 1) hj).2 (by omega)
    have e1 : l.getD (j + 1 - 1) default = l[j] := by simp [List.getD, show j < l.length by omega]
    have e2 : l.getD (j + 1) default = l[j + 1] := by simp [List.getD, hj]
    rw [e1, e2] at h1
    rcases Nat.lt_succ_iff_lt_or_eq.1 hij with h2 | rfl
    ·exact tr (ih (by omega) h2) h1
    ·exact h1
 ·rintro ⟨h1, h2⟩ i hi
  rw [List.pairwise_iff_getElem] at h2
  refine ⟨by rw [show l.getD i default = l[i] by simp [List.getD, hi]]; exact h1 _ (List.getElem_mem hi), fun h0 => ?_⟩
  rw [show l.getD i default = l[i] by simp [List.getD, hi], show l.getD (i - 1) default = l[i - 1] by simp [List.getD, show i - 1 < l.length by omega]]
  exact h2 _ _ (by omega) hi (by omega)
def RN (a b : aB) : Prop := bLs a.Name b.Name = true
instance (a b : aB) : Decidable (RN a b) := by unfold RN; infer_instance
theorem RN.trans {a b c : aB} (h : RN a b) (k : RN b c) : RN a c := bLs_trans h k
def FsOk (l : List aB) : Prop := (∀ f ∈ l, FOk f) ∧ l.Pairwise RN ∧ l.length ≤ 4
instance (l : List aB) : Decidable (FsOk l) := by unfold FsOk; infer_instance
/-- Fields that may be gone through. -/
def Small (l : List aB) : Prop := l.length ≤ 1000 ∧ ∀ f ∈ l, f.Name.size ≤ 1000000 ∧ f.Holds.length ≤ 100000
theorem Small.at {l : List aB} (h : Small l) (i : Nat) : (l.getD i default).Name.size ≤ 1000000 ∧ (l.getD i default).Holds.length ≤ 100000 := by
 by_cases hi : i < l.length
 ·rw [show l.getD i default = l[i] by simp [List.getD, hi]]; exact h.2 _ (List.getElem_mem hi)
 ·rw [show l.getD i default = default by simp [List.getD, Nat.le_of_not_lt hi]]; decide
def LinkF (l : List aB) (i : Nat) : Prop := FOk (l.getD i default) ∧ (0 < i → RN (l.getD (i - 1) default) (l.getD i default))
instance (l : List aB) : DecidablePred (LinkF l) := fun i => by unfold LinkF; infer_instance
theorem linksF_iff (l : List aB) : (∀ i, i < l.length → LinkF l i) ↔ (∀ f ∈ l, FOk f) ∧ l.Pairwise RN := links_gen (P := FOk) (R := RN) RN.trans l
theorem plan_Fields_eq (l : List aB) (hl : Small l) : plan_Fields l = some (decide (FsOk l)) := by
 have hn := hl.1
 unfold plan_Fields
 rw [loop_all l.length (by omega) (LinkF l) false () (fun i hi => ?_) (by simp [-List.getD_eq_getElem?_getD, plan_Fields_L1])]
 ·by_cases h : ∀ i, i < l.length → LinkF l i
  ·rw [if_pos h]
   have := (linksF_iff l).1 h
   refine sd ?_
   simp only [FsOk, this.2, true_and, decide_eq_true_eq]
   exact ⟨fun h => ⟨this.1, by omega⟩, fun h => by omega⟩
  ·rw [if_neg h, decide_eq_false (fun h2 : FsOk l => h ((linksF_iff l).2 ⟨h2.1, h2.2.1⟩))]; rfl
 ·have hs := hl.at i
  simp only [plan_Fields_L1, six_of hi, letM_eq, Option.bind, field_Right_eq _ (show (l.getD i default).Name.size ≤ 1000000000000000 by omega) (show (l.getD i default).Holds.length ≤ 1000000000000 by omega)]
  rw [if_pos (by simp; omega)]
  simp only [wr_succ (show i < 1000000000000000 by omega)]
  by_cases h1 : FOk (l.getD i default)
  ·by_cases h0 : 0 < i
   ·rw [gd_t (by rw [decide_eq_true h1]; simp; omega), wr_pred h0 (by omega), six_of (by omega)]
    simp only []
    by_cases h2 : RN (l.getD (i - 1) default) (l.getD i default)
    ·have h2' : bLs (l.getD (i - 1) default).Name (l.getD i default).Name = true := h2
     rw [if_neg (by rw [decide_eq_true h1, h2']; simp), if_pos ⟨h1, fun _ => h2⟩]
    ·have h2' : bLs (l.getD (i - 1) default).Name (l.getD i default).Name = false := by simpa [RN, -List.getD_eq_getElem?_getD] using h2
     rw [if_pos (by rw [decide_eq_true h1, h2', decide_eq_true (show (0 : Int) < (i : Int) by omega)]; rfl), if_neg (fun k => h2 (k.2 h0))]
   ·obtain rfl : i = 0 := by omega
    rw [gd_f (by simp)]
    simp only []
    rw [if_neg (by rw [decide_eq_true h1]; simp), if_pos ⟨h1, fun k => by omega⟩]
  ·rw [gd_f (by rw [decide_eq_false h1]; simp)]
   simp only []
   rw [if_pos (by rw [decide_eq_false h1]; rfl), if_neg (fun k => h1 k.1)]

/-- No other name. -/
def noS : ByteArray := ⟨#[]⟩
def kindOk (p : TPlan) : Prop :=
 (p.Kind = 1 ∨ p.Kind = 2) ∧ p.Other = noS ∧ 0 ≤ p.A ∧ 0 ≤ p.B ∧ 0 < p.A + p.B ∨ p.Kind = 3 ∧ p.Other = noS ∧ p.A = 0 ∧ p.B = 0 ∨ p.Kind = 4 ∧ p.Other = noS ∧ p.A ≤ p.B ∨
 p.Kind = 5 ∧ NameOk p.Other ∧ p.Other ≠ p.Name ∧ 1 ≤ p.A ∧ p.B = 0 ∨ p.Kind = 6 ∧ NameOk p.Other ∧ p.Other ≠ p.Name ∧ p.A = 0 ∧ p.B = 0
instance (p : TPlan) : Decidable (kindOk p) := by unfold kindOk; infer_instance
def PlOk (p : TPlan) : Prop := NameOk p.Name ∧ IsN p.A ∧ IsN p.B ∧ kindOk p
instance (p : TPlan) : Decidable (PlOk p) := by unfold PlOk; infer_instance
theorem obs {α β : Type} (x : α) (f : α → Option β) : Option.bind (some x) f = f x := rfl
theorem right_chain {a b c r : Prop} [Decidable a] [Decidable b] [Decidable c] [Decidable r] :
  (Option.bind (some (decide a)) fun r4 => Option.bind (gd (r4 = true) (some (decide b))) fun r5 => Option.bind (gd ((r4 && r5) = true) (some (decide c))) fun r6 =>
   Option.bind (gd (((r4 && r5) && r6) = true) (some (decide r))) fun r7 => letM (((r4 && r5) && r6) && r7) fun v8 => some v8) = some (decide (a ∧ b ∧ c ∧ r)) := by
 by_cases ha : a <;> by_cases hb : b <;> by_cases hc : c <;> by_cases hr : r <;> simp [ha, hb, hc, hr, gd, letM] <;> rfl
theorem rule1_eq (p : TPlan) : plan_rules_1 p = some (decide (p.Other = noS)) := rfl
theorem rule3_eq (p : TPlan) : plan_rules_3_rules_1 p = some (decide (p.Other = noS ∧ 0 ≤ p.A ∧ 0 ≤ p.B ∧ 0 < wr .i64 (p.A + p.B))) := by
 unfold plan_rules_3_rules_1
 rw [rule1_eq, obs]
 refine sd ?_
 simp [and_assoc]
theorem rule4_eq (p : TPlan) : plan_rules_4_rules_1 p = some (decide (p.Other = noS ∧ p.A = 0 ∧ p.B = 0)) := by
 unfold plan_rules_4_rules_1
 rw [rule1_eq, obs]
 refine sd ?_
 simp [and_assoc]
theorem rule5_eq (p : TPlan) : plan_rules_5_rules_1 p = some (decide (p.Other = noS ∧ p.A ≤ p.B)) := by
 unfold plan_rules_5_rules_1
 rw [rule1_eq, obs]
 refine sd ?_
 simp [and_assoc]
theorem rule2_eq (p : TPlan) (h : p.Other.size ≤ 1000000) : plan_rules_2 p = some (decide (NameOk p.Other ∧ p.Other ≠ p.Name)) := by
 unfold plan_rules_2
 rw [field_Name_eq _ (by omega), obs]
 refine sd ?_
 simp [and_assoc]
theorem rule6_eq (p : TPlan) (h : p.Other.size ≤ 1000000) : plan_rules_6_rules_2 p = some (decide (NameOk p.Other ∧ p.Other ≠ p.Name ∧ 1 ≤ p.A ∧ p.B = 0)) := by
 unfold plan_rules_6_rules_2
 rw [rule2_eq p h, obs]
 refine sd ?_
 simp [and_assoc]
theorem rule7_eq (p : TPlan) (h : p.Other.size ≤ 1000000) : plan_rules_7_rules_2 p = some (decide (NameOk p.Other ∧ p.Other ≠ p.Name ∧ p.A = 0 ∧ p.B = 0)) := by
 unfold plan_rules_7_rules_2
 rw [rule2_eq p h, obs]
 refine sd ?_
 simp [and_assoc]
theorem sdd {P Q : Prop} [Decidable P] [Decidable Q] (h : P ↔ Q) : some (decide P) = some (decide Q) := by rw [decide_eq_decide.2 h]
theorem plan_Right_eq (p : TPlan) (hk : inI64 p.Kind = true) (h1 : p.Name.size ≤ 1000000) (h2 : p.Other.size ≤ 1000000) : plan_Right p = some (decide (PlOk p)) := by
 have hi : i64M p.Kind = some () := by unfold i64M; rw [if_pos hk]
 unfold plan_Right
 rw [show plan_rules = some () from rfl, hi, obs, obs, field_Name_eq p.Name (by omega), num_Is_eq, num_Is_eq, rule3_eq, rule4_eq, rule5_eq, rule6_eq p h2, rule7_eq p h2]
 simp only [right_chain]
 have w : IsN p.A → IsN p.B → wr .i64 (p.A + p.B) = p.A + p.B := fun hA hB => wr_id (by unfold IsN at hA hB; omega)
 have h12 : p.Kind = 1 ∨ p.Kind = 2 → (NameOk p.Name ∧ IsN p.A ∧ IsN p.B ∧ p.Other = noS ∧ 0 ≤ p.A ∧ 0 ≤ p.B ∧ 0 < wr .i64 (p.A + p.B) ↔ PlOk p) := fun k => by
  unfold PlOk kindOk
  constructor
  ·rintro ⟨a, b, c, d, e, f, g⟩
   rw [w b c] at g
   exact ⟨a, b, c, .inl ⟨k, d, e, f, g⟩⟩
  ·rintro ⟨a, b, c, d⟩
   rw [w b c]
   rcases d with d | d | d | d | d
   ·exact ⟨a, b, c, d.2⟩
   all_goals omega
 by_cases c1 : p.Kind = 1
 ·rw [if_pos (by simp [c1])]; exact sdd (h12 (.inl c1))
 rw [if_neg (by simp [c1])]
 by_cases c2 : p.Kind = 2
 ·rw [if_pos (by simp [c2])]; exact sdd (h12 (.inr c2))
 rw [if_neg (by simp [c2])]
 by_cases c3 : p.Kind = 3
 ·rw [if_pos (by simp [c3])]; refine sdd ?_; unfold PlOk kindOk; simp [c3]
 rw [if_neg (by simp [c3])]
 by_cases c4 : p.Kind = 4
 ·rw [if_pos (by simp [c4])]; refine sdd ?_; unfold PlOk kindOk; simp [c4]
 rw [if_neg (by simp [c4])]
 by_cases c5 : p.Kind = 5
 ·rw [if_pos (by simp [c5])]; refine sdd ?_; unfold PlOk kindOk; simp [c5]
 rw [if_neg (by simp [c5])]
 by_cases c6 : p.Kind = 6
 ·rw [if_pos (by simp [c6])]; refine sdd ?_; unfold PlOk kindOk; simp [c6]
 rw [if_neg (by simp [c6]), decide_eq_false]
 unfold PlOk kindOk
 simp [c1, c2, c3, c4, c5, c6]
def fidx (l : List aB) (n : ByteArray) : Option Nat := l.findIdx? fun f => decide (f.Name = n)
def fnd (l : List aB) (n : ByteArray) : Option aB := l.find? fun f => decide (f.Name = n)
theorem find_idx {α : Type} [Inhabited α] (l : List α) (p : α → Bool) : l.find? p = (l.findIdx? p).map fun i => l.getD i default := by
 induction l with
 | nil => rfl
 | cons x l ih =>
  rw [List.find?_cons, List.findIdx?_cons]
  cases h : p x with
  | true => simp
  | false => rw [ih]; simp only [Bool.false_eq_true, if_false, Option.map_map]; rfl
theorem fnd_idx (l : List aB) (n : ByteArray) : fnd l n = (fidx l n).map fun i => l.getD i default := find_idx l _
theorem fidx_lt {l : List aB} {n : ByteArray} {i : Nat} (h : fidx l n = some i) : i < l.length := (List.findIdx?_eq_some_iff_getElem.1 h).1
theorem index_Field_eq (l : List aB) (n : ByteArray) (hl : l.length ≤ 1000000) : slices_IndexFunc_Field_Find_1 l n = some (match fidx l n with | some i => (i : Int) | none => -1) := by
 unfold slices_IndexFunc_Field_Find_1 fidx
 rw [loop_first l (by omega) (fun f => decide (f.Name = n)) (fun i => (i : Int)) () (fun i hi => ?_) (by simp [slices_IndexFunc_Field_Find_1_L1])]
 ·cases l.findIdx? (fun f => decide (f.Name = n)) <;> rfl
 ·simp only [slices_IndexFunc_Field_Find_1_L1, plan_Find_1, six_of hi, letM_eq, Option.bind]
  rw [if_pos (by simp; omega)]
  simp only [wr_succ (show i < 1000000000000000 by omega)]
  by_cases h : (l.getD i default).Name = n
  ·rw [if_pos (by rw [h]; simp), if_pos (by rw [h]; simp)]
  ·rw [if_neg (by rw [decide_eq_false h]; simp), if_neg (by rw [decide_eq_false h]; simp)]
theorem plan_Find_eq (l : List aB) (n : ByteArray) (hl : l.length ≤ 1000000) : plan_Find l n = some (match fidx l n with | some i => ((i : Int), true) | none => (0, false)) := by
 unfold plan_Find
 rw [index_Field_eq l n hl, obs]
 cases fidx l n with
 | none => rfl
 | some i => simp
theorem loop_first2 {α β ξ ρ : Type} [Inhabited α] {body : β × Int → Option ((β × Int) ⊕ (ξ ⊕ ρ))} (b : β) (l : List α) (hl : l.length ≤ 1000000000000000) (p : α → Bool) (q : Nat → ρ) (x : ξ)
  (hb : ∀ i, i < l.length → body (b, (i : Int)) = some (if p (l.getD i default) = true then .inr (.inr (q i)) else .inl (b, ((i + 1 : Nat) : Int)))) (hf : body (b, (l.length : Int)) = some (.inr (.inl x))) :
  loopM body fuel (b, 0) = some (match l.findIdx? p with | some i => .inr (q i) | none => .inl x) := by
 refine loopM_eq (fun i s => s = (b, (i : Int)) ∧ ∀ j, j < i → p (l.getD j default) = false) l.length hl _ ?_ ?_ ⟨rfl, fun j h => by omega⟩
 ·rintro i s hi ⟨rfl, hI⟩
  rw [hb i hi]
  by_cases h : p (l.getD i default) = true
  ·refine .inr ?_
   rw [if_pos h]
   have : l.findIdx? p = some i := by
    rw [List.findIdx?_eq_some_iff_getElem]
    refine ⟨hi, by simpa [List.getD, hi] using h, fun j hj => ?_⟩
    have := hI j hj
    simp [List.getD, show j < l.length by omega] at this
    simp [this]
   rw [this]
  ·refine .inl ⟨_, by rw [if_neg h], rfl, fun j hj => ?_⟩
   rcases Nat.lt_succ_iff_lt_or_eq.1 hj with h2 | rfl
   ·exact hI j h2
   ·simpa using h
 ·rintro s ⟨rfl, hI⟩
  rw [hf]
  have : l.findIdx? p = none := by
   rw [List.findIdx?_eq_none_iff]
   intro y hy
   obtain ⟨i, hi, rfl⟩ := List.getElem_of_mem hy
   simpa [List.getD, hi] using hI i hi
  rw [this]
theorem idx_any {α : Type} (l : List α) (p : α → Bool) : decide ((0 : Int) ≤ (match l.findIdx? p with | some i => (i : Int) | none => -1)) = l.any p := by
 have h : (l.findIdx? p).isSome = l.any p := by simp
 rw [← h]
 cases l.findIdx? p with
 | none => rfl
 | some i => simp
def offK (k : Int) (f : aB) : Bool := !decide (f.Kind = k)
theorem cont_kind_eq (l : List aB) (b : Int) (hl : l.length ≤ 1000000) : slices_ContainsFunc_Field_Fits_1 l b = some (l.any (offK b), b) := by
 unfold slices_ContainsFunc_Field_Fits_1 slices_IndexFunc_Field_Fits_1
 rw [loop_first2 b l (by omega) (offK b) (fun i => ((i : Int), b)) b (fun i hi => ?_) (by simp [slices_IndexFunc_Field_Fits_1_L1])]
 ·rw [← idx_any l (offK b)]
  cases l.findIdx? (offK b) <;> rfl
 ·simp only [slices_IndexFunc_Field_Fits_1_L1, plan_Fits_1, six_of hi, letM_eq, Option.bind]
  rw [if_pos (by simp; omega)]
  simp only [wr_succ (show i < 1000000000000000 by omega)]
  by_cases h : offK b (l.getD i default) = true
  ·rw [if_pos (by simpa only [offK] using h), if_pos h]
  ·rw [if_neg (by simpa only [offK] using h), if_neg h]
def isH (h : THold) : Bool := decide (h.State = 1)
def heldF (f : aB) : Bool := f.Holds.any isH
theorem cont_hold_eq (l : List THold) (hl : l.length ≤ 1000000) : slices_ContainsFunc_Hold_Fits_2 l = some (l.any isH) := by
 unfold slices_ContainsFunc_Hold_Fits_2 slices_IndexFunc_Hold_Fits_2
 rw [loop_first l (by omega) isH (fun i => (i : Int)) () (fun i hi => ?_) (by simp [slices_IndexFunc_Hold_Fits_2_L1])]
 ·rw [← idx_any l isH]
  cases l.findIdx? isH <;> rfl
 ·simp only [slices_IndexFunc_Hold_Fits_2_L1, plan_Fits_2, six_of hi, letM_eq, Option.bind]
  rw [if_pos (by simp; omega)]
  simp only [wr_succ (show i < 1000000000000000 by omega)]
  by_cases h : isH (l.getD i default) = true
  ·rw [if_pos (by simpa only [isH] using h), if_pos h]
  ·rw [if_neg (by simpa only [isH] using h), if_neg h]
theorem cont_held_eq (l : List aB) (hl : Small l) : slices_ContainsFunc_Field_Fits_3_Fits_2 l = some (l.any heldF) := by
 have hn := hl.1
 unfold slices_ContainsFunc_Field_Fits_3_Fits_2 slices_IndexFunc_Field_Fits_3_Fits_2
 rw [loop_first l (by omega) heldF (fun i => (i : Int)) () (fun i hi => ?_) (by simp [slices_IndexFunc_Field_Fits_3_Fits_2_L1])]
 ·rw [← idx_any l heldF]
  cases l.findIdx? heldF <;> rfl
 ·have hs := hl.at i
  simp only [slices_IndexFunc_Field_Fits_3_Fits_2_L1, plan_Fits_3_Fits_2, cont_hold_eq _ (show (l.getD i default).Holds.length ≤ 1000000 by omega), six_of hi, letM_eq, Option.bind]
  rw [if_pos (by simp; omega)]
  simp only [wr_succ (show i < 1000000000000000 by omega)]
  by_cases h : heldF (l.getD i default) = true
  ·rw [if_pos (by simpa only [heldF] using h), if_pos h]
  ·rw [if_neg (by simpa only [heldF] using h), if_neg h]
/-- What a plan is about. -/
def tch (l : List aB) (p : TPlan) : Option (List aB) :=
 match fnd l p.Name with
 | none => none
 | some f => if p.Kind = 6 then (match fnd l p.Other with | none => none | some g => some [f, g]) else some [f]
theorem fits_step (l : List aB) (hl : l.length ≤ 1000000) (ns : List ByteArray) (i : Nat) (hi : i < ns.length) (h2 : ns.length ≤ 1000) (acc : List aB) (ha : acc.length ≤ 1000) :
  plan_Fits_L1 l ns ((i : Int), acc) = match fnd l (ns.getD i default) with | none => some (.inr (.inr 10)) | some f => some (.inl (((i + 1 : Nat) : Int), acc ++ [f])) := by
 simp only [plan_Fits_L1, six_of hi, obs, plan_Find_eq l _ hl, fnd_idx]
 rw [if_pos (by simp; omega)]
 cases h : fidx l (ns.getD i default) with
 | none => simp
 | some k =>
  simp only [Option.map_some]
  rw [if_neg (by simp), six_of (fidx_lt h), obs, letM_eq, app_of (by simp; omega), obs]
  simp only [wr_succ (show i < 1000000000000000 by omega)]
theorem fits_end (l : List aB) (ns : List ByteArray) (acc : List aB) : plan_Fits_L1 l ns ((ns.length : Int), acc) = some (.inr (.inl acc)) := by
 simp [plan_Fits_L1]
theorem loop_go {σ ρ : Type} {body : σ → Option (σ ⊕ ρ)} {n : Nat} {s t : σ} (h : body s = some (.inl t)) : loopM body (n + 1) s = loopM body n t := by simp only [loopM, h]
theorem loop_out {σ ρ : Type} {body : σ → Option (σ ⊕ ρ)} {n : Nat} {s : σ} {r : ρ} (h : body s = some (.inr r)) : loopM body (n + 1) s = some r := by simp only [loopM, h]
theorem fuel3 : ∃ n, fuel = n + 1 + 1 + 1 := ⟨1180591620717411303421, rfl⟩
theorem fits_loop (l : List aB) (hl : l.length ≤ 1000000) (p : TPlan) : loopM (plan_Fits_L1 l (if (decide (p.Kind = 6)) = true then [p.Name, p.Other] else [p.Name])) fuel (0, ([] : List aB)) = some (match tch l p with | some t => .inl t | none => .inr 10) := by
 obtain ⟨n, hf⟩ := fuel3
 rw [hf]
 unfold tch
 by_cases h6 : p.Kind = 6
 ·rw [if_pos (by simp [h6])]
  simp only [if_pos h6]
  have s0 := fits_step l hl [p.Name, p.Other] 0 (by simp) (by simp) [] (by simp)
  simp only [List.getD_cons_zero] at s0
  cases h : fnd l p.Name with
  | none => rw [h] at s0; exact loop_out s0
  | some f =>
   rw [h] at s0
   have s1 := fits_step l hl [p.Name, p.Other] 1 (by simp) (by simp) [f] (by simp)
   simp only [List.getD_cons_succ, List.getD_cons_zero] at s1
   refine (loop_go s0).trans ?_
   cases h2 : fnd l p.Other with
   | none => rw [h2] at s1; exact loop_out s1
   | some g =>
    rw [h2] at s1
    exact (loop_go s1).trans (loop_out (fits_end l [p.Name, p.Other] [f, g]))
 ·rw [if_neg (by simp [h6])]
  simp only [if_neg h6]
  have s0 := fits_step l hl [p.Name] 0 (by simp) (by simp) [] (by simp)
  simp only [List.getD_cons_zero] at s0
  cases h : fnd l p.Name with
  | none => rw [h] at s0; exact loop_out s0
  | some f =>
   rw [h] at s0
   exact (loop_go s0).trans (loop_out (fits_end l [p.Name] [f]))
def chkS (t : List aB) (k : Int) : Int := if t.any (offK k) = true then 17 else if t.any heldF = true then 12 else 0
def fitsS (l : List aB) (p : TPlan) : Int :=
 if FsOk l then (if PlOk p then (match tch l p with
  | none => 10
  | some t => if p.Kind = 5 then (if (fidx l p.Other).isSome = true then 11 else if l.length = 4 then 7 else chkS t 1) else if p.Kind = 4 then chkS t 2 else chkS t 1) else 14) else 1
theorem fnd_mem {l : List aB} {n : ByteArray} {f : aB} (h : fnd l n = some f) : f ∈ l := List.mem_of_find?_eq_some h
theorem fnd_name {l : List aB} {n : ByteArray} {f : aB} (h : fnd l n = some f) : f.Name = n := by simpa using List.find?_some h
theorem tch_small {l : List aB} {p : TPlan} {t : List aB} (hl : Small l) (h : tch l p = some t) : Small t := by
 unfold tch at h
 cases h1 : fnd l p.Name with
 | none => rw [h1] at h; simp at h
 | some f =>
  rw [h1] at h
  have k1 := hl.2 f (fnd_mem h1)
  by_cases h6 : p.Kind = 6
  ·simp only [if_pos h6] at h
   cases h2 : fnd l p.Other with
   | none => rw [h2] at h; simp at h
   | some g =>
    rw [h2] at h
    have k2 := hl.2 g (fnd_mem h2)
    simp only [Option.some.injEq] at h
    subst h
    exact ⟨by simp, by simpa using ⟨k1, k2⟩⟩
  ·simp only [if_neg h6, Option.some.injEq] at h
   subst h
   exact ⟨by simp, by simpa using k1⟩
theorem plan_Fits_eq (l : List aB) (p : TPlan) (hl : Small l) (hk : inI64 p.Kind = true) (h1 : p.Name.size ≤ 1000000) (h2 : p.Other.size ≤ 1000000) : plan_Fits l p = some (fitsS l p) := by
 have hn := hl.1
 unfold plan_Fits fitsS
 rw [plan_Fields_eq l hl, obs]
 by_cases c1 : FsOk l
 rotate_left
 ·rw [if_neg c1, if_pos (by simp [c1])]
 rw [if_pos c1, if_neg (by simp [c1]), plan_Right_eq p hk h1 h2, obs]
 by_cases c2 : PlOk p
 rotate_left
 ·rw [if_neg c2, if_pos (by simp [c2])]
 rw [if_pos c2, if_neg (by simp [c2])]
 have hnm : plan_names p = some (if (decide (p.Kind = 6)) = true then [p.Name, p.Other] else [p.Name]) := by unfold plan_names; split <;> rfl
 rw [hnm, obs, fits_loop l (by omega) p, obs]
 cases ht : tch l p with
 | none => rfl
 | some t =>
  have hts := tch_small hl ht
  have ht1 := hts.1
  simp only [onS, plan_Find_eq l _ (show l.length ≤ 1000000 by omega), obs, letM_eq, cont_kind_eq t _ (show t.length ≤ 1000000 by omega), cont_held_eq t hts]
  have hi : (match fidx l p.Other with | some i => ((i : Int), true) | none => (0, false)).2 = (fidx l p.Other).isSome := by cases fidx l p.Other <;> rfl
  have h4 : decide ((l.length : Int) = 4) = decide (l.length = 4) := decide_eq_decide.2 (by omega)
  rw [hi, h4]
  have e : ∀ k : Int, (if t.any (offK k) = true then some 17 else if t.any heldF = true then some 12 else some 0) = some (chkS t k) := fun k => by
   unfold chkS
   by_cases c : t.any (offK k) = true
   ·rw [if_pos c, if_pos c]
   ·rw [if_neg c, if_neg c]
    by_cases d : t.any heldF = true
    ·rw [if_pos d, if_pos d]
    ·rw [if_neg d, if_neg d]
  rw [e 1, e 2]
  by_cases k5 : p.Kind = 5
  ·rw [if_pos (by simp [k5]), if_pos k5]
   cases (fidx l p.Other).isSome with
   | true => rfl
   | false =>
    have n4 : ¬ (decide (p.Kind = 4) = true) := by simp [k5]
    have nf : ¬ (false = true) := by simp
    rw [if_neg nf, if_neg nf, if_neg n4]
    by_cases k7 : l.length = 4
    ·rw [if_pos (by simp [k7]), if_pos k7]
    ·rw [if_neg (by simp [k7]), if_neg k7]
  ·rw [if_neg (by simp [k5]), if_neg k5]
   by_cases k4 : p.Kind = 4
   ·rw [if_pos (by simp [k4]), if_pos k4]
   ·rw [if_neg (by simp [k4]), if_neg k4]
def nilF : aB := ⟨(default : ByteArray), 0, 0, (default : aJ), (default : TLock), ([] : List THold)⟩
def madeOk (e v lo hi : Int) : Prop := IsN e ∧ IsN v ∧ IsN lo ∧ IsN hi ∧ IsN (hi - lo)
instance (e v lo hi : Int) : Decidable (madeOk e v lo hi) := by unfold madeOk; infer_instance
def madeF (n : ByteArray) (e v lo hi : Int) : aB := ⟨n, 1, e, newC v lo hi, (default : TLock), ([] : List THold)⟩
def madeS (n : ByteArray) (e v lo hi : Int) : aB × Int := if madeOk e v lo hi then (if NewOk v lo hi then (madeF n e v lo hi, 0) else (nilF, 14)) else (nilF, 2)
theorem all5 {P : Int → Prop} (a b c d e : Int) : (∀ i, i < 5 → P ([a, b, c, d, e].getD i default)) ↔ P a ∧ P b ∧ P c ∧ P d ∧ P e := by
 constructor
 ·intro h
  exact ⟨h 0 (by omega), h 1 (by omega), h 2 (by omega), h 3 (by omega), h 4 (by omega)⟩
 ·rintro ⟨h0, h1, h2, h3, h4⟩ i hi
  match i, hi with
  | 0, _ => exact h0
  | 1, _ => exact h1
  | 2, _ => exact h2
  | 3, _ => exact h3
  | 4, _ => exact h4
theorem plan_made_eq (n : ByteArray) (e v lo hi : Int) : plan_made n e v lo hi = some (madeS n e v lo hi) := by
 unfold plan_made madeS
 rw [loop_all 5 (by omega) (fun i => IsN ([e, v, lo, hi, wr .i64 (hi - lo)].getD i default)) (nilF, 2) () (fun i hi' => ?_) (by simp [-List.getD_eq_getElem?_getD, plan_made_L1])]
 ·have A := all5 (P := IsN) e v lo hi (wr .i64 (hi - lo))
  by_cases h : IsN e ∧ IsN v ∧ IsN lo ∧ IsN hi
  ·have w : wr .i64 (hi - lo) = hi - lo := wr_id (by have := h.2.2; unfold IsN at this; omega)
   by_cases h5 : IsN (hi - lo)
   ·have h' : madeOk e v lo hi := ⟨h.1, h.2.1, h.2.2.1, h.2.2.2, h5⟩
    rw [if_pos (A.2 ⟨h.1, h.2.1, h.2.2.1, h.2.2.2, by rw [w]; exact h5⟩), if_pos h']
    simp only [onS, obs, counter_New_eq, letM_eq]
    by_cases h6 : NewOk v lo hi
    ·rw [if_pos h6, if_pos h6]; rfl
    ·rw [if_neg h6, if_neg h6]; rfl
   ·rw [if_neg (fun k => h5 (w ▸ (A.1 k).2.2.2.2)), if_neg (fun k : madeOk e v lo hi => h5 k.2.2.2.2)]; rfl
  ·rw [if_neg (fun k => h ⟨(A.1 k).1, (A.1 k).2.1, (A.1 k).2.2.1, (A.1 k).2.2.2.1⟩), if_neg (fun k : madeOk e v lo hi => h ⟨k.1, k.2.1, k.2.2.1, k.2.2.2.1⟩)]; rfl
 ·have hs : ([e, v, lo, hi, wr .i64 (hi - lo)] : List Int).length = 5 := rfl
  simp only [plan_made_L1, six_of (xs := [e, v, lo, hi, wr .i64 (hi - lo)]) (show i < _ from hi'), letM_eq, obs, num_Is_eq]
  rw [if_pos (by simp [-List.getD_eq_getElem?_getD]; omega)]
  simp only [wr_succ (show i < 1000000000000000 by omega)]
  by_cases h : IsN ([e, v, lo, hi, wr .i64 (hi - lo)].getD i default)
  ·rw [if_neg (by rw [decide_eq_true h]; simp), if_pos h]
  ·rw [if_pos (by rw [decide_eq_false h]; rfl), if_neg h]; rfl
def oneS (v lo hi : Int) (f : aB) (e : Int) : List aB × Int := ([(madeS f.Name e v lo hi).1], (madeS f.Name e v lo hi).2)
theorem one_eq (v lo hi : Int) (f : aB) (e : Int) : plan_change_1_own v lo hi f e = some ((oneS v lo hi f e).1, (oneS v lo hi f e).2, e) := by
 unfold plan_change_1_own
 rw [plan_made_eq]; rfl
def overS (f : aB) (p : TPlan) : Int := max 0 (wr .i64 ((viewS f).1 - wr .i64 (f.Counter.High - p.A)))
/-- What a plan makes of a field, and another one. -/
def changeS (f g : aB) (p : TPlan) : List aB × Int :=
 if (viewS f).2 ≠ 0 ∨ ((viewS g).2 ≠ 0 ∧ p.Kind = 6) then ([], 2)
 else if p.Kind = 1 then oneS (viewS f).1 (wr .i64 (f.Counter.Low + p.A)) (wr .i64 (f.Counter.High - p.B)) f (wr .i64 (f.Epoch + 1))
 else if p.Kind = 2 then oneS (viewS f).1 (wr .i64 (f.Counter.Low - p.A)) (wr .i64 (f.Counter.High + p.B)) f (wr .i64 (f.Epoch + 1))
 else if p.Kind = 4 then oneS (viewS f).1 p.A p.B f (wr .i64 (f.Epoch + 1))
 else if p.Kind = 6 then oneS (wr .i64 ((viewS f).1 + (viewS g).1)) (wr .i64 (f.Counter.Low + g.Counter.Low)) (wr .i64 (f.Counter.High + g.Counter.High)) f (wr .i64 (max f.Epoch g.Epoch + 1))
 else if p.Kind = 5 then
  (if (madeS p.Other (wr .i64 (f.Epoch + 1)) (overS f p) 0 p.A).2 = 0 then
   ((oneS (wr .i64 ((viewS f).1 - overS f p)) f.Counter.Low (wr .i64 (f.Counter.High - p.A)) f (wr .i64 (f.Epoch + 1))).1 ++ [(madeS p.Other (wr .i64 (f.Epoch + 1)) (overS f p) 0 p.A).1],
    (oneS (wr .i64 ((viewS f).1 - overS f p)) f.Counter.Low (wr .i64 (f.Counter.High - p.A)) f (wr .i64 (f.Epoch + 1))).2)
   else ([], (madeS p.Other (wr .i64 (f.Epoch + 1)) (overS f p) 0 p.A).2))
 else if IsN (viewS f).1 ∧ IsN (wr .i64 (f.Epoch + 1)) then ([⟨f.Name, 2, wr .i64 (f.Epoch + 1), (default : aJ), ⟨0, 0, 0, (viewS f).1⟩, ([] : List THold)⟩], 0) else ([], 2)
theorem lock_New0 (v : Int) : lock_New 0 v = some (if IsN v then (⟨0, 0, 0, v⟩, 0) else (zeroL, 2)) := by
 unfold lock_New
 rw [lock_is_eq, obs, if_neg (by simp), num_Is_eq, obs]
 by_cases h : IsN v
 ·rw [if_neg (by simp [h]), if_pos h]; rfl
 ·rw [if_pos (by simp [h]), if_neg h]; rfl
theorem plan_change_eq (f g : aB) (p : TPlan) : plan_change_own f g p = some (changeS f g p) := by
 unfold plan_change_own changeS
 simp only [field_View_eq, obs, letM_eq, one_eq, plan_made_eq, lock_New0, num_Is_eq]
 by_cases h1 : (viewS f).2 ≠ 0 ∨ ((viewS g).2 ≠ 0 ∧ p.Kind = 6)
 ·rw [if_pos h1, if_pos]
  simpa using h1
 rw [if_neg h1, if_neg (by simpa using h1)]
 by_cases c1 : p.Kind = 1
 ·rw [if_pos (by simp [c1]), if_pos c1]
 rw [if_neg (by simp [c1]), if_neg c1]
 by_cases c2 : p.Kind = 2
 ·rw [if_pos (by simp [c2]), if_pos c2]
 rw [if_neg (by simp [c2]), if_neg c2]
 by_cases c4 : p.Kind = 4
 ·rw [if_pos (by simp [c4]), if_pos c4]
 rw [if_neg (by simp [c4]), if_neg c4]
 by_cases c6 : p.Kind = 6
 ·rw [if_pos (by simp [c6]), if_pos c6]
 rw [if_neg (by simp [c6]), if_neg c6]
 by_cases c5 : p.Kind = 5
 ·rw [if_pos (by simp [c5]), if_pos c5]
  change (if (!decide ((madeS p.Other (wr .i64 (f.Epoch + 1)) (overS f p) 0 p.A).2 = 0)) = true then _ else _) = _
  by_cases h : (madeS p.Other (wr .i64 (f.Epoch + 1)) (overS f p) 0 p.A).2 = 0
  ·rw [if_pos h, if_neg (by simp [h]), app_of (by simp [oneS]), obs]; rfl
  ·rw [if_neg h, if_pos (by simp [h])]; rfl
 rw [if_neg (by simp [c5]), if_neg c5]
 by_cases h : IsN (viewS f).1
 ·rw [if_pos h]
  by_cases h2 : IsN (wr .i64 (f.Epoch + 1))
  ·rw [if_pos ⟨h, h2⟩, gd_t (by simp), obs, if_neg (by simp [h2])]
  ·rw [if_neg (fun k => h2 k.2), gd_t (by simp), obs, if_pos (by simp [h2])]
 ·rw [if_neg h, if_neg (fun k => h k.1), gd_f (by simp), obs, if_pos (by simp)]
def tchB (p : TPlan) (n : ByteArray) : Bool := decide (n = p.Name) || (!decide (p.Other = noS) && decide (n = p.Other))
theorem plan_Touched_eq (p : TPlan) (n : ByteArray) : plan_Touched p n = some (tchB p n) := rfl
/-- What a plan is not about. -/
def rest (l : List aB) (p : TPlan) : List aB := l.filter fun f => !tchB p f.Name
def applyS (l : List aB) (p : TPlan) : List aB × Int :=
 if fitsS l p = 0 then
  (if (changeS ((fnd l p.Name).getD nilF) ((fnd l p.Other).getD nilF) p).2 = 0 then (sortF planCmp ((changeS ((fnd l p.Name).getD nilF) ((fnd l p.Other).getD nilF) p).1 ++ rest l p), 0)
   else ([], (changeS ((fnd l p.Name).getD nilF) ((fnd l p.Other).getD nilF) p).2))
 else ([], fitsS l p)
theorem foldl_rest (l : List aB) (p : TPlan) (a : List aB) : l.foldl (fun s f => if tchB p f.Name = true then s else s ++ [f]) a = a ++ rest l p := by
 induction l generalizing a with
 | nil => simp [rest]
 | cons x l ih =>
  rw [List.foldl_cons, ih]
  unfold rest
  rw [List.filter_cons]
  by_cases h : tchB p x.Name = true <;> simp [h]
theorem changeS_len (f g : aB) (p : TPlan) : (changeS f g p).1.length ≤ 2 := by
 unfold changeS oneS
 repeat' split
 all_goals simp
theorem apply_loop {body : Int × List aB → Option ((Int × List aB) ⊕ List aB)} (l : List aB) (p : TPlan) (hl : Small l) (a : List aB) (ha : a.length ≤ 1000)
  (hb : ∀ i s, body (i, s) = if (decide (i < (l.length : Int))) = true then
      Option.bind (six l i) fun j14 =>
      letM (l.getD j14 default) fun v15 =>
      Option.bind (plan_Touched p v15.Name) fun r16 =>
      if (!r16) = true then
       Option.bind (app 40 [] v15.Holds) fun r17 =>
       letM ({ v15 with Holds := r17 }) fun v18 =>
       Option.bind (app 4720 s [v18]) fun l19 =>
       some (.inl ((wr .i64 (i + 1)), l19))
      else
       some (.inl ((wr .i64 (i + 1)), s))
     else
      some (.inr s)) : loopM body fuel (0, a) = some (a ++ rest l p) := by
 have hn := hl.1
 rw [← foldl_rest, ← foldl_range_list l default]
 refine (loop_fold l.length (by omega) (fun s i => if tchB p (l.getD i default).Name = true then s else s ++ [l.getD i default]) (fun s => s) (fun i s => s.length ≤ 1000 + i) (by simpa using ha) (fun i s hi hs => ?_) (fun s hs => ?_)).1
 ·have hh := hl.at i
  rw [hb, if_pos (by simp; omega), six_of hi, obs, letM_eq, plan_Touched_eq, obs]
  simp only [wr_succ (show i < 1000000000000000 by omega)]
  by_cases h : tchB p (l.getD i default).Name = true
  ·rw [if_neg (by rw [h]; simp), if_pos h]
   exact ⟨rfl, by omega⟩
  ·rw [if_pos (by simpa using h), if_neg h, app_of (by simp only [List.length_nil]; omega), obs, letM_eq, app_of (by simp only [List.length_cons, List.length_nil]; omega), obs]
   exact ⟨rfl, by simp; omega⟩
 ·rw [hb, if_neg (by simp)]
theorem fits_found {l : List aB} {p : TPlan} (h : fitsS l p = 0) : FsOk l ∧ PlOk p ∧ ∃ t, tch l p = some t := by
 unfold fitsS at h
 by_cases c1 : FsOk l
 ·rw [if_pos c1] at h
  by_cases c2 : PlOk p
  ·rw [if_pos c2] at h
   cases ht : tch l p with
   | none => rw [ht] at h; simp at h
   | some t => exact ⟨c1, c2, t, rfl⟩
  ·rw [if_neg c2] at h; simp at h
 ·rw [if_neg c1] at h; simp at h
theorem tch_fnd {l : List aB} {p : TPlan} {t : List aB} (h : tch l p = some t) : ∃ f, fnd l p.Name = some f := by
 unfold tch at h
 cases h1 : fnd l p.Name with
 | none => rw [h1] at h; simp at h
 | some f => exact ⟨f, rfl⟩
def Few13 (l : List aB) (p : TPlan) : Prop := l.length ≤ 8 ∧ (∀ f ∈ l, f.Name.size ≤ 100 ∧ f.Holds.length ≤ 40) ∧ p.Name.size ≤ 100 ∧ p.Other.size ≤ 100
instance (l : List aB) (p : TPlan) : Decidable (Few13 l p) := by unfold Few13; infer_instance
theorem Few13_eq (l : List aB) (p : TPlan) : ul13_Few l p = some (decide (Few13 l p)) := by
 unfold ul13_Few
 by_cases h : l.length ≤ 8
 ·rw [gd_t (by simp; omega), Few7_eq l (by omega), obs]
  refine sd ?_
  have h' : (l.length : Int) ≤ 8 := by omega
  simp only [Few13, h, h', decide_true, Bool.true_and, true_and, Bool.and_eq_true, decide_eq_true_eq, and_assoc]
  refine and_congr_right fun _ => ?_
  omega
 ·rw [gd_f (by simp; omega), obs]
  refine sd ?_
  have h' : ¬ (l.length : Int) ≤ 8 := by omega
  simp [Few13, h, h']
theorem Few13.small {l : List aB} {p : TPlan} (h : Few13 l p) : Small l := ⟨by have := h.1; omega, fun f hf => by have := h.2.1 f hf; omega⟩
theorem size_list (s : ByteArray) : s.toList.length = s.size := by rw [ByteArray.toList_eq]; rfl
theorem bAt_list {s : ByteArray} {i : Nat} (h : i < s.toList.length) : bAt s i = ((s.toList[i]).toNat : Int) := by
 have hs : i < s.size := by rw [size_list] at h; exact h
 unfold bAt bix
 rw [dif_pos (by omega)]
 simp only [Option.getD_some, Int.toNat_natCast]
 have : s.toList[i] = s[i] := by
  have e : s.toList = s.data.toList := ByteArray.toList_eq s
  simp only [e, Array.getElem_toList]; rfl
 rw [this]
theorem before_eq (a b : ByteArray) (ha : a.size ≤ 1000000000000000) : ur13_before a b = some (bLs a b) := by
 unfold ur13_before
 suffices key : ∃ r, loopM (ur13_before_L1 a b) fuel 0 = some r ∧ onS (fun _ => some (decide ((a.size : Int) < (b.size : Int)))) (fun r => some r) r = some (bLs a b) by
  obtain ⟨r, h1, h2⟩ := key
  rw [h1]; exact h2
 refine loopM_ind (body := ur13_before_L1 a b) (fun i t => t = (i : Int) ∧ bLs a b = Op.bytesLess (a.toList.drop i) (b.toList.drop i)) (min a.size b.size) (by omega)
  (fun r => onS (fun _ => some (decide ((a.size : Int) < (b.size : Int)))) (fun r => some r) r = some (bLs a b)) (fun i t hi hI => ?_) (fun t hI => ?_) (s0 := 0) ⟨rfl, by simp [bLs]⟩
 ·obtain ⟨rfl, hI⟩ := hI
  have ia : i < a.size := by omega
  have ib : i < b.size := by omega
  have la : i < a.toList.length := by rw [size_list]; exact ia
  have lb : i < b.toList.length := by rw [size_list]; exact ib
  simp only [ur13_before_L1, bix_of ia, bix_of ib, obs]
  rw [if_pos (by simp; omega)]
  rw [List.drop_eq_getElem_cons la, List.drop_eq_getElem_cons lb] at hI
  have ea := bAt_list la
  have eb := bAt_list lb
  simp only [wr_succ (show i < 1000000000000000 by omega)]
  by_cases h : bAt a i = bAt b i
  ·rw [if_neg (by simp [h])]
   refine .inl ⟨_, rfl, rfl, ?_⟩
   rw [hI]
   refine Bool.eq_iff_iff.2 ((bl_cons _ _ _ _).trans ?_)
   constructor
   ·rintro (k | k)
    ·omega
    ·exact k.2
   ·intro k; exact .inr ⟨by omega, k⟩
  ·rw [if_pos (by simp [h])]
   refine .inr ⟨_, rfl, ?_⟩
   show some (decide (bAt a i < bAt b i)) = _
   rw [hI]
   congr 1
   refine Bool.eq_iff_iff.2 ((Iff.of_eq (decide_eq_true_eq)).trans ((?_ : _ ↔ _).trans (bl_cons _ _ _ _).symm))
   constructor
   ·intro k; exact .inl (by omega)
   ·rintro (k | k)
    ·omega
    ·omega
 ·obtain ⟨rfl, hI⟩ := hI
  refine ⟨_, by simp only [ur13_before_L1]; rw [if_neg (by simp; omega)], ?_⟩
  show some (decide ((a.size : Int) < (b.size : Int))) = _
  rw [hI]
  congr 1
  by_cases h : a.size < b.size
  ·rw [decide_eq_true (by omega : (a.size : Int) < (b.size : Int))]
   have e1 : a.toList.drop (min a.size b.size) = [] := List.drop_eq_nil_of_le (by rw [size_list]; omega)
   have lb : min a.size b.size < b.toList.length := by rw [size_list]; omega
   rw [e1, List.drop_eq_getElem_cons lb]; rfl
  ·rw [decide_eq_false (by omega : ¬ (a.size : Int) < (b.size : Int))]
   have e1 : b.toList.drop (min a.size b.size) = [] := List.drop_eq_nil_of_le (by rw [size_list]; omega)
   rw [e1, bl_nil]
theorem ref13_Fields_eq (l : List aB) (hl : Small l) : ur13_Fields l = some (decide (FsOk l)) := by
 have hn := hl.1
 unfold ur13_Fields
 rw [loop_all l.length (by omega) (LinkF l) false () (fun i hi => ?_) (by simp [-List.getD_eq_getElem?_getD, ur13_Fields_L1])]
 ·by_cases h : ∀ i, i < l.length → LinkF l i
  ·rw [if_pos h]
   have := (linksF_iff l).1 h
   refine sd ?_
   simp only [FsOk, this.2, true_and, decide_eq_true_eq]
   exact ⟨fun h => ⟨this.1, by omega⟩, fun h => by omega⟩
  ·rw [if_neg h, decide_eq_false (fun h2 : FsOk l => h ((linksF_iff l).2 ⟨h2.1, h2.2.1⟩))]; rfl
 ·have hs := hl.at i
  simp only [ur13_Fields_L1, six_of hi, letM_eq, obs, ref07_Right_eq _ (show (l.getD i default).Name.size ≤ 1000000000000000 by omega) (show (l.getD i default).Holds.length ≤ 1000000000000 by omega)]
  rw [if_pos (by simp; omega)]
  simp only [wr_succ (show i < 1000000000000000 by omega)]
  by_cases h1 : FOk (l.getD i default)
  ·by_cases h0 : 0 < i
   ·have hp := hl.at (i - 1)
    have g : ((!decide (FOk (l.getD i default))) = false) ∧ (decide ((0 : Int) < (i : Int))) = true := ⟨by rw [decide_eq_true h1]; rfl, by simp; omega⟩
    rw [gd_t g, wr_pred h0 (by omega), six_of (by omega), obs, gd_t g, obs, gd_t g, before_eq _ _ (show (l.getD (i - 1) default).Name.size ≤ 1000000000000000 by omega), obs]
    by_cases h2 : RN (l.getD (i - 1) default) (l.getD i default)
    ·have h2' : bLs (l.getD (i - 1) default).Name (l.getD i default).Name = true := h2
     rw [if_neg (by rw [decide_eq_true h1, h2']; simp), if_pos ⟨h1, fun _ => h2⟩]
    ·have h2' : bLs (l.getD (i - 1) default).Name (l.getD i default).Name = false := by simpa [RN, -List.getD_eq_getElem?_getD] using h2
     rw [if_pos (by rw [decide_eq_true h1, h2', decide_eq_true (show (0 : Int) < (i : Int) by omega)]; rfl), if_neg (fun k => h2 (k.2 h0))]
   ·obtain rfl : i = 0 := by omega
    rw [gd_f (by simp), obs, gd_f (by simp), obs, gd_f (by simp), obs]
    rw [if_neg (by rw [decide_eq_true h1]; simp), if_pos ⟨h1, fun k => by omega⟩]
  ·have g : ¬ (((!decide (FOk (l.getD i default))) = false) ∧ (decide ((0 : Int) < (i : Int))) = true) := fun k => by rw [decide_eq_false h1] at k; exact absurd k.1 (by decide)
   rw [gd_f g, obs, gd_f g, obs, gd_f g, obs]
   rw [if_pos (by rw [decide_eq_false h1]; rfl), if_neg (fun k => h1 k.1)]
theorem ref13_Right_eq (p : TPlan) (h1 : p.Name.size ≤ 1000000) (h2 : p.Other.size ≤ 1000000) : ur13_Right p = some (decide (PlOk p)) := by
 unfold ur13_Right
 rw [ref_Name_eq p.Name (by omega), ref_Name_eq p.Other (by omega), ref_Is_eq, ref_Is_eq]
 by_cases k : p.Kind < 1 ∨ 6 < p.Kind
 ·have hn : ¬ PlOk p := fun h => by have := h.2.2.2; unfold kindOk at this; omega
  have e : ((decide (p.Kind < 1)) || (decide (6 < p.Kind))) = true := by simpa using k
  rw [e, gd_f (by simp), obs, gd_f (by simp), obs, letM_eq, gd_f (by simp), obs, if_pos (by simp), decide_eq_false hn]
 have e : ((decide (p.Kind < 1)) || (decide (6 < p.Kind))) = false := by simpa using k
 rw [e, gd_t rfl, obs]
 by_cases a : NameOk p.Name
 rotate_left
 ·have hn : ¬ PlOk p := fun h => a h.1
  rw [gd_f (by simp [a]), obs, letM_eq, gd_f (by simp [a]), obs, if_pos (by simp [a]), decide_eq_false hn]
 rw [gd_t (by simp [a]), obs, letM_eq]
 by_cases b : IsN p.A
 rotate_left
 ·have hn : ¬ PlOk p := fun h => b h.2.1
  rw [gd_f (by simp [b]), obs, if_pos (by simp [b]), decide_eq_false hn]
 rw [gd_t (by simp [a, b]), obs]
 by_cases c : IsN p.B
 rotate_left
 ·have hn : ¬ PlOk p := fun h => c h.2.2.1
  rw [if_pos (by simp [c]), decide_eq_false hn]
 rw [if_neg (by simp [a, b, c]), obs, letM_eq]
 have hP : PlOk p ↔ kindOk p := ⟨fun h => h.2.2.2, fun h => ⟨a, b, c, h⟩⟩
 by_cases c2 : p.Kind ≤ 2
 ·rw [if_pos (by simpa using c2)]
  refine sd ?_
  rw [hP]
  unfold kindOk
  simp only [Bool.and_eq_true, Bool.or_eq_true, decide_eq_true_eq]
  change ((p.Other = noS ∧ _) ∧ _) ∧ _ ↔ _
  constructor
  ·rintro ⟨⟨⟨h1, h2⟩, h3⟩, h4⟩
   exact .inl ⟨by omega, h1, h2, h3, by omega⟩
  ·rintro (h | h | h | h | h)
   ·exact ⟨⟨⟨h.2.1, h.2.2.1⟩, h.2.2.2.1⟩, by omega⟩
   all_goals omega
 rw [if_neg (by simpa using c2)]
 by_cases c3 : p.Kind = 3
 ·rw [if_pos (by simp [c3])]
  refine sd ?_
  rw [hP]
  unfold kindOk
  simp [c3, and_assoc, noS]
 rw [if_neg (by simp [c3])]
 by_cases c4 : p.Kind = 4
 ·rw [if_pos (by simp [c4])]
  refine sd ?_
  rw [hP]
  unfold kindOk
  simp [c4, and_assoc, noS]
 rw [if_neg (by simp [c4])]
 by_cases c5 : p.Kind = 5
 ·rw [if_pos (by simp [c5])]
  refine sd ?_
  rw [hP]
  unfold kindOk
  have : (0 : Int) < p.A ↔ 1 ≤ p.A := by omega
  simp [c5, and_assoc, this]
 rw [if_neg (by simp [c5])]
 have c6 : p.Kind = 6 := by omega
 refine sd ?_
 rw [hP]
 unfold kindOk
 simp [c6, and_assoc]
theorem made_small (n : ByteArray) (e v lo hi : Int) (hn : n.size ≤ 1000000) : (madeS n e v lo hi).1.Name.size ≤ 1000000 ∧ (madeS n e v lo hi).1.Holds.length ≤ 100000 := by
 have z : nilF.Name.size ≤ 1000000 ∧ nilF.Holds.length ≤ 100000 := by decide
 unfold madeS
 by_cases h : madeOk e v lo hi
 ·rw [if_pos h]
  by_cases h2 : NewOk v lo hi
  ·rw [if_pos h2]; exact ⟨hn, by simp [madeF]⟩
  ·rw [if_neg h2]; exact z
 ·rw [if_neg h]; exact z
theorem change_small (f g : aB) (p : TPlan) (hf : f.Name.size ≤ 1000000) (hp : p.Other.size ≤ 1000000) : ∀ x ∈ (changeS f g p).1, x.Name.size ≤ 1000000 ∧ x.Holds.length ≤ 100000 := by
 have o : ∀ v lo hi e, ∀ x ∈ (oneS v lo hi f e).1, x.Name.size ≤ 1000000 ∧ x.Holds.length ≤ 100000 := fun v lo hi e x hx => by
  simp only [oneS, List.mem_singleton] at hx
  subst hx
  exact made_small _ _ _ _ _ hf
 unfold changeS
 repeat' split
 ·simp
 ·exact o _ _ _ _
 ·exact o _ _ _ _
 ·exact o _ _ _ _
 ·exact o _ _ _ _
 ·intro x hx
  rcases List.mem_append.1 hx with hx | hx
  ·exact o _ _ _ _ x hx
  ·simp only [List.mem_singleton] at hx
   subst hx
   exact made_small _ _ _ _ _ hp
 ·simp
 ·intro x hx
  simp only [List.mem_singleton] at hx
  subst hx
  exact ⟨hf, by simp⟩
 ·simp
theorem rest_sub {l : List aB} {p : TPlan} {x : aB} (h : x ∈ rest l p) : x ∈ l := (List.mem_filter.1 h).1
theorem fndD_small (l : List aB) (hl : Small l) (n : ByteArray) : ((fnd l n).getD nilF).Name.size ≤ 1000000 := by
 cases h : fnd l n with
 | none => decide
 | some f => exact (hl.2 f (fnd_mem h)).1
theorem apply_small (l : List aB) (p : TPlan) (hl : Small l) (h8 : l.length ≤ 900) (hp : p.Other.size ≤ 1000000) : Small (applyS l p).1 := by
 unfold applyS
 by_cases h : fitsS l p = 0
 rotate_left
 ·rw [if_neg h]; exact ⟨by simp, by simp⟩
 rw [if_pos h]
 by_cases h2 : (changeS ((fnd l p.Name).getD nilF) ((fnd l p.Other).getD nilF) p).2 = 0
 rotate_left
 ·rw [if_neg h2]; exact ⟨by simp, by simp⟩
 rw [if_pos h2]
 have h3 := changeS_len ((fnd l p.Name).getD nilF) ((fnd l p.Other).getD nilF) p
 have h4 : (rest l p).length ≤ l.length := List.length_filter_le _ _
 refine ⟨by simp only [sortF_length planCmp_swo, List.length_append]; omega, fun x hx => ?_⟩
 rcases List.mem_append.1 ((sortF_perm planCmp_swo _).mem_iff.1 hx) with hx | hx
 ·exact change_small _ _ _ (fndD_small l hl _) hp x hx
 ·exact hl.2 x (rest_sub hx)
theorem apply_zero {l : List aB} {p : TPlan} (h : (applyS l p).2 = 0) : fitsS l p = 0 := by
 unfold applyS at h
 by_cases k : fitsS l p = 0
 ·exact k
 ·rw [if_neg k] at h; exact h
theorem wf_i64 {x : Int} (h : (Lit.int .i64 x).wf = true) : inI64 x = true := by
 simp [Lit.wf, IntKind.min, IntKind.max, IntKind.signed, IntKind.bits] at h
 simp [inI64]; omega
def ixI (o : Option Nat) : Int := match o with | some i => (i : Int) | none => -1
theorem ref13_at_eq (l : List aB) (n : ByteArray) (hl : l.length ≤ 1000000) : ur13_at l n = some (ixI (fidx l n)) := by
 unfold ur13_at fidx ixI
 rw [loop_first l (by omega) (fun f => decide (f.Name = n)) (fun i => (i : Int)) () (fun i hi => ?_) (by simp [ur13_at_L1])]
 ·cases l.findIdx? (fun f => decide (f.Name = n)) <;> rfl
 ·simp only [ur13_at_L1, six_of hi, obs]
  rw [if_pos (by simp; omega)]
  simp only [wr_succ (show i < 1000000000000000 by omega)]
  by_cases h : decide ((l.getD i default).Name = n) = true
  ·rw [if_pos h, if_pos h]
  ·rw [if_neg h, if_neg h]
theorem ref13_held_eq (f : aB) (hl : f.Holds.length ≤ 1000000) : ur13_held f = some (heldF f) := by
 unfold ur13_held heldF
 rw [loop_first f.Holds (by omega) isH (fun i => true) () (fun i hi => ?_) (by simp [ur13_held_L1])]
 ·have h : (f.Holds.findIdx? isH).isSome = f.Holds.any isH := by simp
  rw [← h]
  cases f.Holds.findIdx? isH <;> rfl
 ·simp only [ur13_held_L1, six_of hi, obs]
  rw [if_pos (by simp; omega)]
  simp only [wr_succ (show i < 1000000000000000 by omega)]
  by_cases h : isH (f.Holds.getD i default) = true
  ·rw [if_pos (by simpa only [isH] using h), if_pos h]
  ·rw [if_neg (by simpa only [isH] using h), if_neg h]
/-- Where kinds and holds are looked at. -/
theorem chk_ref (l : List aB) (p : TPlan) (hl : Small l) (k : Int) (i : Nat) (hi : i < l.length) (o : Option Nat) (ho : p.Kind = 6 → ∃ j, o = some j ∧ j < l.length) :
  (Option.bind (six l (i : Int)) fun j15 =>
   Option.bind (gd (((!decide ((l.getD j15 default).Kind = k)) = false) ∧ (decide (p.Kind = 6)) = true) (six l (ixI o))) fun j16 =>
   letM ((!decide ((l.getD j15 default).Kind = k)) || ((decide (p.Kind = 6)) && (!decide ((l.getD j16 default).Kind = k)))) fun v17 =>
   if v17 = true then some 17
   else
    Option.bind (six l (i : Int)) fun j18 =>
    letM (l.getD j18 default) fun v19 =>
    Option.bind (ur13_held v19) fun r20 =>
    Option.bind (gd ((r20 = false) ∧ (decide (p.Kind = 6)) = true) (six l (ixI o))) fun j21 =>
    Option.bind (gd ((r20 = false) ∧ (decide (p.Kind = 6)) = true) (ur13_held (l.getD j21 default))) fun r22 =>
    if (r20 || ((decide (p.Kind = 6)) && r22)) = true then some (12 : Int) else some 0) =
  some (chkS (l.getD i default :: (if p.Kind = 6 then (match o with | some j => [l.getD j default] | none => []) else [])) k) := by
 have h1 := hl.at i
 by_cases c6 : p.Kind = 6
 ·obtain ⟨j, rfl, hj⟩ := ho c6
  have h2 := hl.at j
  simp only [ixI, six_of hi, six_of hj, obs, letM_eq, ref13_held_eq _ (show (l.getD i default).Holds.length ≤ 1000000 by omega)]
  rw [if_pos c6]
  unfold chkS
  by_cases a : (l.getD i default).Kind = k
  ·rw [gd_t ⟨by rw [decide_eq_true a]; rfl, by simp [c6]⟩, obs]
   by_cases b : (l.getD j default).Kind = k
   ·rw [if_neg (by rw [decide_eq_true a, decide_eq_true b]; simp), if_neg (by simp only [List.any_cons, List.any_nil, offK, decide_eq_true a, decide_eq_true b]; decide)]
    cases d : heldF (l.getD i default) with
    | true => rw [gd_f (by simp), obs, gd_f (by simp), obs, if_pos (by simp), if_pos (by simp only [List.any_cons, d]; rfl)]
    | false =>
     rw [gd_t ⟨rfl, by simp [c6]⟩, obs, gd_t ⟨rfl, by simp [c6]⟩, ref13_held_eq _ (by omega), obs]
     cases d2 : heldF (l.getD j default) with
     | true => rw [if_pos (by simp [c6]), if_pos (by simp only [List.any_cons, d, d2]; rfl)]
     | false => rw [if_neg (by simp), if_neg (by simp only [List.any_cons, List.any_nil, d, d2]; decide)]
   ·rw [if_pos (by rw [decide_eq_false b]; simp [c6]), if_pos (by simp only [List.any_cons, List.any_nil, offK, decide_eq_false b]; simp)]
  ·rw [gd_f (fun q => by rw [decide_eq_false a] at q; exact absurd q.1 (by decide)), obs, if_pos (by rw [decide_eq_false a]; rfl), if_pos (by simp only [List.any_cons, List.any_nil, offK, decide_eq_false a]; rfl)]
 ·simp only [six_of hi, obs, letM_eq, ref13_held_eq _ (show (l.getD i default).Holds.length ≤ 1000000 by omega)]
  rw [if_neg c6]
  have e : ∀ f : aB, chkS [f] k = if offK k f = true then 17 else if heldF f = true then 12 else 0 := fun f => by unfold chkS; simp
  rw [e]
  have n6 : ∀ q : Prop, ¬ (q ∧ decide (p.Kind = 6) = true) := fun q h => by simp [c6] at h
  rw [gd_f (n6 _), obs, gd_f (n6 _), obs, gd_f (n6 _), obs, decide_eq_false c6]
  change (if (offK k (l.getD i default) || (false && _)) = true then _ else _) = _
  cases a : offK k (l.getD i default) with
  | true => rfl
  | false => cases d : heldF (l.getD i default) <;> rfl
theorem ref13_Fits_eq (l : List aB) (p : TPlan) (hl : Small l) (h1 : p.Name.size ≤ 1000000) (h2 : p.Other.size ≤ 1000000) : ur13_Fits l p = some (fitsS l p) := by
 have hn := hl.1
 unfold ur13_Fits fitsS
 rw [ref13_Fields_eq l hl, obs]
 by_cases c1 : FsOk l
 rotate_left
 ·rw [if_neg c1, if_pos (by simp [c1])]
 rw [if_pos c1, if_neg (by simp [c1]), ref13_Right_eq p h1 h2, obs]
 by_cases c2 : PlOk p
 rotate_left
 ·rw [if_neg c2, if_pos (by simp [c2])]
 rw [if_pos c2, if_neg (by simp [c2]), ref13_at_eq l _ (by omega), obs, ref13_at_eq l _ (by omega), obs]
 have l4 := c1.2.2
 unfold tch
 rw [fnd_idx, fnd_idx]
 cases ha : fidx l p.Name with
 | none => rw [if_pos (by simp [ixI])]; rfl
 | some i =>
  have hi := fidx_lt ha
  simp only [Option.map_some]
  have ei : ixI (some i) = (i : Int) := rfl
  rw [ei]
  have di : decide ((i : Int) < 0) = false := by simp
  rw [di]
  have hs : decide (0 ≤ ixI (fidx l p.Other)) = (fidx l p.Other).isSome := by cases fidx l p.Other with | none => rfl | some j => simp [ixI]
  have hs' : decide (ixI (fidx l p.Other) < 0) = !(fidx l p.Other).isSome := by cases fidx l p.Other with | none => rfl | some j => exact decide_eq_false (show ¬ ((j : Int) < 0) by omega)
  have h44 : decide (4 ≤ (l.length : Int)) = decide (l.length = 4) := decide_eq_decide.2 (by omega)
  rw [hs, hs', h44]
  by_cases c6 : p.Kind = 6
  ·simp only [if_pos c6]
   cases hb : fidx l p.Other with
   | none => rw [if_pos (by simp [c6])]; rfl
   | some j =>
    have hj := fidx_lt hb
    rw [if_neg (by simp), if_neg (by simp [c6]), if_neg (by simp [c6]), if_neg (by simp [c6])]
    simp only [Option.map_some]
    rw [if_neg (by omega), if_neg (by omega)]
    have := chk_ref l p hl 1 i hi (some j) (fun _ => ⟨j, rfl, hj⟩)
    rw [if_pos c6] at this
    exact this
  ·simp only [if_neg c6]
   rw [if_neg (by simp [c6])]
   have key : ∀ k, _ := fun k => chk_ref l p hl k i hi (fidx l p.Other) (fun h => (c6 h).elim)
   simp only [if_neg c6] at key
   by_cases c5 : p.Kind = 5
   ·rw [if_pos c5]
    cases hb : (fidx l p.Other).isSome with
    | true => rw [if_pos (by simp [c5]), if_pos rfl]
    | false =>
     rw [if_neg (by simp), if_neg (show ¬ (false = true) by simp)]
     by_cases c7 : l.length = 4
     ·rw [if_pos (by simp [c5, c7]), if_pos c7]
     ·rw [if_neg (by simp [c7]), if_neg c7, if_neg (by simp [c5])]
      exact key 1
   ·rw [if_neg c5, if_neg (by simp [c5]), if_neg (by simp [c5])]
    by_cases c4 : p.Kind = 4
    ·rw [if_pos (by simp [c4]), if_pos c4]; exact key 2
    ·rw [if_neg (by simp [c4]), if_neg c4]; exact key 1
theorem sumO_val : ∀ (l : List Int) (n m : Int), IsN n → sumO n l = some m → m = n + l.sum ∧ IsN m
 | [], n, m, hn, h => by simp only [sumO, Option.some.injEq] at h; subst h; simpa using hn
 | x :: t, n, m, hn, h => by
  simp only [sumO] at h
  by_cases k : IsN n ∧ IsN x ∧ IsN (n + x)
  ·have e : addS n x = (n + x, 0) := by unfold addS; rw [if_pos k]
   rw [e, if_pos rfl] at h
   obtain ⟨h1, h2⟩ := sumO_val t (n + x) m k.2.2 h
   refine ⟨?_, h2⟩
   rw [h1, List.sum_cons]; omega
  ·have e : addS n x = (0, 2) := by unfold addS; rw [if_neg k]
   rw [e] at h
   simp at h
theorem sumS_val {l : List Int} (h : (sumS l).2 = 0) : (sumS l).1 = l.sum ∧ IsN (sumS l).1 := by
 unfold sumS at h ⊢
 cases k : sumO 0 l with
 | none => rw [k] at h; simp at h
 | some m =>
  have := sumO_val l 0 m (by decide) k
  simp only []
  exact ⟨by omega, this.2⟩
theorem view_isN {f : aB} (hf : FOk f) (h : (viewS f).2 = 0) : IsN (viewS f).1 := by
 unfold viewS at h ⊢
 by_cases c : f.Kind = 1
 ·rw [if_pos c] at h ⊢; exact (sumS_val h).2
 ·rw [if_neg c] at h ⊢
  by_cases c2 : f.Kind = 2
  ·rw [if_pos c2]
   rcases hf.2.2 with k | k
   ·exact (c k.1).elim
   ·exact k.2.1.2.2.2.2
  ·rw [if_neg c2] at h; simp at h
theorem made_zero {n : ByteArray} {e v lo hi : Int} (h : (madeS n e v lo hi).2 = 0) : madeOk e v lo hi ∧ NewOk v lo hi ∧ madeS n e v lo hi = (madeF n e v lo hi, 0) := by
 unfold madeS at h ⊢
 by_cases h1 : madeOk e v lo hi
 ·rw [if_pos h1] at h ⊢
  by_cases h2 : NewOk v lo hi
  ·rw [if_pos h2]; exact ⟨h1, h2, rfl⟩
  ·rw [if_neg h2] at h; simp at h
 ·rw [if_neg h1] at h; simp at h
theorem madeF_view (n : ByteArray) (e v lo hi : Int) (hv : IsN v) : viewS (madeF n e v lo hi) = (v, 0) := by
 unfold viewS
 rw [if_pos (show (madeF n e v lo hi).Kind = 1 from rfl)]
 have ev : valL (madeF n e v lo hi).Counter = v :: List.replicate 32 0 := rfl
 have ea : addS 0 v = (v, 0) := by unfold addS; rw [if_pos ⟨by decide, hv, by simpa using hv⟩]; simp
 unfold sumS
 rw [ev, sumO, ea, if_pos rfl, sum_zeros 32 v hv]
theorem rts_nil9 : Rts [] := by decide
theorem madeF_ok {n : ByteArray} {e v lo hi : Int} (hn : NameOk n) (h0 : 0 ≤ e) (h1 : madeOk e v lo hi) (h2 : NewOk v lo hi) : FOk (madeF n e v lo hi) :=
 ⟨hn, ⟨h0, h1.1⟩, .inl ⟨rfl, COk_new h2, rts_nil9, rfl⟩⟩
/-- What is made of a field. -/
structure MadeOf (f : aB) (m : aB) : Prop where
 ok : FOk m
 holds : m.Holds = []
 epoch : f.Epoch < m.Epoch
 view : (viewS m).2 = 0
theorem one_ok {v lo hi e : Int} {f : aB} (hf : NameOk f.Name) (h0 : 0 ≤ f.Epoch) (he : f.Epoch < e) (h : (oneS v lo hi f e).2 = 0) :
  oneS v lo hi f e = ([madeF f.Name e v lo hi], 0) ∧ madeOk e v lo hi ∧ NewOk v lo hi ∧ MadeOf f (madeF f.Name e v lo hi) ∧ viewS (madeF f.Name e v lo hi) = (v, 0) := by
 obtain ⟨h1, h2, h3⟩ := made_zero (n := f.Name) (e := e) (v := v) (lo := lo) (hi := hi) h
 have hv := madeF_view f.Name e v lo hi h1.2.1
 exact ⟨by unfold oneS; rw [h3], h1, h2, ⟨madeF_ok hf (by omega) h1 h2, rfl, he, by rw [hv]⟩, hv⟩
def vw (f : aB) : Int := (viewS f).1
structure Changed (f g : aB) (p : TPlan) (out : List aB) : Prop where
 names : out.map (fun x => x.Name) = if p.Kind = 5 then [p.Name, p.Other] else [p.Name]
 made : ∀ m ∈ out, MadeOf f m ∧ (p.Kind = 6 → g.Epoch < m.Epoch)
 sum : (out.map vw).sum = vw f + if p.Kind = 6 then vw g else 0
theorem change_viewed {f g : aB} {p : TPlan} (h : (changeS f g p).2 = 0) : (viewS f).2 = 0 ∧ (p.Kind = 6 → (viewS g).2 = 0) := by
 by_cases c : (viewS f).2 ≠ 0 ∨ ((viewS g).2 ≠ 0 ∧ p.Kind = 6)
 ·unfold changeS at h; rw [if_pos c] at h; simp at h
 ·exact ⟨Classical.byContradiction fun k => c (.inl k), fun h6 => Classical.byContradiction fun k => c (.inr ⟨k, h6⟩)⟩
theorem change_ok {f g : aB} {p : TPlan} (hf : FOk f) (hg : p.Kind = 6 → FOk g) (hp : PlOk p) (hn : f.Name = p.Name) (h : (changeS f g p).2 = 0) : Changed f g p (changeS f g p).1 := by
 obtain ⟨hv1, hv2⟩ := change_viewed h
 have nb : ¬ ((viewS f).2 ≠ 0 ∨ ((viewS g).2 ≠ 0 ∧ p.Kind = 6)) := by
  rintro (k | k)
  ·exact k hv1
  ·exact k.1 (hv2 k.2)
 have hN := view_isN hf hv1
 have hE := hf.2.1
 have we : wr .i64 (f.Epoch + 1) = f.Epoch + 1 := wr_id (by unfold cnt IsN at hE; omega)
 have single : ∀ v lo hi e, changeS f g p = oneS v lo hi f e → p.Kind ≠ 5 → f.Epoch < e → (p.Kind = 6 → g.Epoch < e) → v = vw f + (if p.Kind = 6 then vw g else 0) → Changed f g p (changeS f g p).1 := by
  intro v lo hi e hc h5 he he6 hv
  rw [hc] at h
  obtain ⟨o1, o2, o3, o4, o5⟩ := one_ok hf.1 hE.1 he h
  rw [hc, o1]
  refine ⟨by rw [if_neg h5]; simp [madeF, hn], fun m hm => ?_, by simp only [List.map_cons, List.map_nil, List.sum_cons, List.sum_nil, vw] at hv ⊢; rw [o5]; simp only []; omega⟩
  simp only [List.mem_singleton] at hm
  subst hm
  exact ⟨o4, he6⟩
 by_cases c1 : p.Kind = 1
 ·exact single _ _ _ _ (by unfold changeS; rw [if_neg nb, if_pos c1]) (by omega) (by rw [we]; omega) (by omega) (by rw [if_neg (by omega)]; simp [vw])
 by_cases c2 : p.Kind = 2
 ·exact single _ _ _ _ (by unfold changeS; rw [if_neg nb, if_neg c1, if_pos c2]) (by omega) (by rw [we]; omega) (by omega) (by rw [if_neg (by omega)]; simp [vw])
 by_cases c4 : p.Kind = 4
 ·exact single _ _ _ _ (by unfold changeS; rw [if_neg nb, if_neg c1, if_neg c2, if_pos c4]) (by omega) (by rw [we]; omega) (by omega) (by rw [if_neg (by omega)]; simp [vw])
 by_cases c6 : p.Kind = 6
 ·have hg' := hg c6
  have hE2 := hg'.2.1
  have w2 : wr .i64 (max f.Epoch g.Epoch + 1) = max f.Epoch g.Epoch + 1 := wr_id (by unfold cnt IsN at hE hE2; omega)
  have hN2 := view_isN hg' (hv2 c6)
  exact single _ _ _ _ (by unfold changeS; rw [if_neg nb, if_neg c1, if_neg c2, if_neg c4, if_pos c6]) (by omega) (by rw [w2]; omega) (by rw [w2]; omega) (by rw [if_pos c6]; unfold vw; exact wr_id (by unfold IsN at hN hN2; omega))
 by_cases c5 : p.Kind = 5
 ·by_cases hm : (madeS p.Other (wr .i64 (f.Epoch + 1)) (overS f p) 0 p.A).2 = 0
  rotate_left
  ·unfold changeS at h; rw [if_neg nb, if_neg c1, if_neg c2, if_neg c4, if_neg c6, if_pos c5, if_neg hm] at h; exact (hm h).elim
  have e : changeS f g p = ((oneS (wr .i64 ((viewS f).1 - overS f p)) f.Counter.Low (wr .i64 (f.Counter.High - p.A)) f (wr .i64 (f.Epoch + 1))).1 ++ [(madeS p.Other (wr .i64 (f.Epoch + 1)) (overS f p) 0 p.A).1],
    (oneS (wr .i64 ((viewS f).1 - overS f p)) f.Counter.Low (wr .i64 (f.Counter.High - p.A)) f (wr .i64 (f.Epoch + 1))).2) := by
   unfold changeS; rw [if_neg nb, if_neg c1, if_neg c2, if_neg c4, if_neg c6, if_pos c5, if_pos hm]
  rw [e] at h
  rw [we] at e h hm
  obtain ⟨o1, o2, o3, o4, o5⟩ := one_ok hf.1 hE.1 (show f.Epoch < f.Epoch + 1 by omega) h
  obtain ⟨m1, m2, m3⟩ := made_zero hm
  have hO : NameOk p.Other := by have := hp.2.2.2; unfold kindOk at this; rcases this with k | k | k | k | k <;> first | omega | exact k.2.1
  have hmv := madeF_view p.Other (f.Epoch + 1) (overS f p) 0 p.A m1.2.1
  rw [e, o1, m3]
  refine ⟨by rw [if_pos c5]; simp [madeF, hn], fun m hm => ?_, ?_⟩
  ·simp only [List.mem_append, List.mem_singleton] at hm
   rcases hm with rfl | rfl
   ·exact ⟨o4, fun k => (c6 k).elim⟩
   ·exact ⟨⟨madeF_ok hO (by have := hE.1; omega) m1 m2, rfl, show f.Epoch < f.Epoch + 1 by omega, by rw [hmv]⟩, fun k => (c6 k).elim⟩
  ·rw [if_neg c6]
   have w3 : wr .i64 ((viewS f).1 - overS f p) = (viewS f).1 - overS f p := wr_id (by have := m1.2.1; unfold IsN at this hN; omega)
   simp only [List.map_append, List.map_cons, List.map_nil, List.sum_append, List.sum_cons, List.sum_nil, vw]
   rw [o5, hmv, w3]
   simp only []
   omega
 ·by_cases k : IsN (viewS f).1 ∧ IsN (wr .i64 (f.Epoch + 1))
  rotate_left
  ·unfold changeS at h; rw [if_neg nb, if_neg c1, if_neg c2, if_neg c4, if_neg c6, if_neg c5, if_neg k] at h; simp at h
  have e : changeS f g p = ([⟨f.Name, 2, wr .i64 (f.Epoch + 1), (default : aJ), ⟨0, 0, 0, (viewS f).1⟩, ([] : List THold)⟩], 0) := by
   unfold changeS; rw [if_neg nb, if_neg c1, if_neg c2, if_neg c4, if_neg c6, if_neg c5, if_pos k]
  rw [we] at e k
  rw [e]
  refine ⟨by rw [if_neg c5]; simp [hn], fun m hm => ?_, ?_⟩
  ·simp only [List.mem_singleton] at hm
   subst hm
   have z : cnt 0 := by decide
   exact ⟨⟨⟨hf.1, ⟨show 0 ≤ f.Epoch + 1 by have := hE.1; omega, k.2⟩, .inr ⟨rfl, ⟨z, z, show (0 : Int) ≤ 0 by decide, show (0 : Int) ≤ 15 by decide, k.1⟩, rfl, rfl⟩⟩, rfl, show f.Epoch < f.Epoch + 1 by omega, rfl⟩, fun k => (c6 k).elim⟩
  ·rw [if_neg c6]
   simp [vw, viewS]
def Dist (l : List aB) : Prop := l.Pairwise fun a b => a.Name ≠ b.Name
theorem RN.ne {a b : aB} (h : RN a b) : a.Name ≠ b.Name := fun e => by unfold RN at h; rw [e, bLs_irrefl] at h; cases h
theorem FsOk.dist {l : List aB} (h : FsOk l) : Dist l := h.2.1.imp RN.ne
theorem Dist.perm {l k : List aB} (h : l.Perm k) (d : Dist l) : Dist k := h.pairwise d fun h => h.symm
theorem sort_RN {l : List aB} (d : Dist l) : (sortF planCmp l).Pairwise RN := by
 have h1 := sortF_sorted planCmp_swo l
 rw [planCmp_lt] at h1
 have h2 : Dist (sortF planCmp l) := Dist.perm (sortF_perm planCmp_swo l).symm d
 refine (h1.and h2).imp ?_
 rintro a b ⟨h, k⟩
 cases c : bLs a.Name b.Name with
 | true => exact c
 | false => exact (k (bLs_tri c h)).elim
theorem fnd_of {l : List aB} {m : aB} {n : ByteArray} (d : Dist l) (hm : m ∈ l) (hn : m.Name = n) : fnd l n = some m := by
 induction l with
 | nil => cases hm
 | cons x l ih =>
  unfold fnd
  rw [List.find?_cons]
  rcases List.mem_cons.1 hm with rfl | h
  ·rw [decide_eq_true hn]
  ·have : x.Name ≠ n := fun e => (List.pairwise_cons.1 d).1 m h (e.trans hn.symm)
   rw [decide_eq_false this]
   exact ih (List.pairwise_cons.1 d).2 h
theorem fnd_none {l : List aB} {n : ByteArray} (h : fnd l n = none) : ∀ x ∈ l, x.Name ≠ n := fun x hx e => by
 have := List.find?_eq_none.1 h x hx
 simp [e] at this
def offN (n : ByteArray) (l : List aB) : List aB := l.filter fun x => !decide (x.Name = n)
theorem off_perm {l : List aB} {f : aB} {n : ByteArray} (d : Dist l) (h : fnd l n = some f) : l.Perm (f :: offN n l) := by
 induction l with
 | nil => cases h
 | cons x l ih =>
  unfold fnd at h
  rw [List.find?_cons] at h
  have d' := List.pairwise_cons.1 d
  unfold offN
  rw [List.filter_cons]
  by_cases e : x.Name = n
  ·rw [decide_eq_true e] at h
   simp only [Option.some.injEq] at h
   subst h
   rw [decide_eq_true e]
   have : l.filter (fun x => !decide (x.Name = n)) = l := List.filter_eq_self.2 fun y hy => by
    have := d'.1 y hy
    simp only [Bool.not_eq_true', decide_eq_false_iff_not]
    exact fun q => this (e.trans q.symm)
   simp [this]
  ·rw [decide_eq_false e] at h
   rw [decide_eq_false e]
   have := ih d'.2 h
   simp only [Bool.not_false, if_true]
   exact (this.cons x).trans (List.Perm.swap _ _ _)
theorem rest_one {l : List aB} {p : TPlan} (h : ∀ x ∈ l, tchB p x.Name = decide (x.Name = p.Name)) : rest l p = offN p.Name l := by
 unfold rest offN
 exact List.filter_congr fun x hx => by rw [h x hx]
theorem rest_two (l : List aB) {p : TPlan} (h : p.Other ≠ noS) : rest l p = offN p.Other (offN p.Name l) := by
 unfold rest offN
 rw [List.filter_filter]
 refine List.filter_congr fun x hx => ?_
 unfold tchB
 rw [decide_eq_false h]
 cases decide (x.Name = p.Name) <;> cases decide (x.Name = p.Other) <;> rfl
theorem NameOk_ne {n : ByteArray} (h : NameOk n) : n ≠ noS := fun e => by rw [e] at h; exact absurd h.2.1 (by decide)
/-- Fields, as a plan that fits sees them. -/
structure Fit (l : List aB) (p : TPlan) (f : aB) : Prop where
 fs : FsOk l
 pl : PlOk p
 found : fnd l p.Name = some f
 one : p.Kind ≠ 6 → l.Perm (f :: rest l p)
 two : p.Kind = 6 → ∃ g, fnd l p.Other = some g ∧ l.Perm (f :: g :: rest l p)
 five : p.Kind = 5 → fnd l p.Other = none ∧ l.length ≠ 4
 kind : f.Kind = if p.Kind = 4 then 2 else 1
theorem kind5 {p : TPlan} (h : PlOk p) (k : p.Kind = 5) : NameOk p.Other ∧ p.Other ≠ p.Name ∧ 1 ≤ p.A ∧ p.B = 0 := by
 have := h.2.2.2; unfold kindOk at this
 rcases this with q | q | q | q | q <;> first | omega | exact q.2
theorem kind6 {p : TPlan} (h : PlOk p) (k : p.Kind = 6) : NameOk p.Other ∧ p.Other ≠ p.Name ∧ p.A = 0 ∧ p.B = 0 := by
 have := h.2.2.2; unfold kindOk at this
 rcases this with q | q | q | q | q <;> first | omega | exact q.2
theorem kind_no {p : TPlan} (h : PlOk p) (k : p.Kind ≠ 5) (k2 : p.Kind ≠ 6) : p.Other = noS := by
 have := h.2.2.2; unfold kindOk at this
 rcases this with q | q | q | q | q
 ·exact q.2.1
 ·exact q.2.1
 ·exact q.2.1
 ·exact (k q.1).elim
 ·exact (k2 q.1).elim
theorem chk_kind {t : List aB} {k : Int} (h : chkS t k = 0) : ∀ f ∈ t, f.Kind = k := fun f hf => by
 unfold chkS at h
 by_cases c : t.any (offK k) = true
 ·rw [if_pos c] at h; simp at h
 ·simp only [List.any_eq_true, not_exists, not_and, offK] at c
  simpa using c f hf
theorem fit_of {l : List aB} {p : TPlan} (h : fitsS l p = 0) : ∃ f, Fit l p f := by
 obtain ⟨c1, c2, t, ht⟩ := fits_found h
 obtain ⟨f, hf⟩ := tch_fnd ht
 unfold fitsS at h
 rw [if_pos c1, if_pos c2, ht] at h
 simp only [] at h
 unfold tch at ht
 rw [hf] at ht
 simp only [] at ht
 have d := c1.dist
 refine ⟨f, c1, c2, hf, fun k6 => ?_, fun k6 => ?_, fun k5 => ?_, ?_⟩
 ·rw [if_neg k6] at ht
  have key : ∀ x ∈ l, tchB p x.Name = decide (x.Name = p.Name) := fun x hx => by
   unfold tchB
   by_cases k5 : p.Kind = 5
   ·rw [if_pos k5] at h
    have hn : ¬ ((fidx l p.Other).isSome = true) := fun q => by rw [if_pos q] at h; simp at h
    have : fnd l p.Other = none := by rw [fnd_idx]; cases e : fidx l p.Other with | none => rfl | some i => rw [e] at hn; simp at hn
    rw [decide_eq_false (fnd_none this x hx)]; simp
   ·rw [kind_no c2 k5 k6]; simp
  rw [rest_one key]
  exact off_perm d hf
 ·rw [if_pos k6] at ht
  cases hg : fnd l p.Other with
  | none => rw [hg] at ht; cases ht
  | some g =>
   refine ⟨g, rfl, ?_⟩
   have q := kind6 c2 k6
   have h1 := off_perm d hf
   have d1 : Dist (offN p.Name l) := (List.pairwise_cons.1 (Dist.perm h1 d)).2
   have hgn := fnd_name hg
   have hg1 : g ∈ offN p.Name l := List.mem_filter.2 ⟨fnd_mem hg, by rw [hgn]; simpa using q.2.1⟩
   rw [rest_two l (NameOk_ne q.1)]
   exact h1.trans ((off_perm d1 (fnd_of d1 hg1 hgn)).cons f)
 ·rw [if_pos k5] at h
  have hn : ¬ ((fidx l p.Other).isSome = true) := fun q => by rw [if_pos q] at h; simp at h
  rw [if_neg hn] at h
  refine ⟨by rw [fnd_idx]; cases e : fidx l p.Other with | none => rfl | some i => rw [e] at hn; simp at hn, fun k => ?_⟩
  rw [if_pos k] at h; simp at h
 ·have hm : f ∈ t := by
   by_cases k6 : p.Kind = 6
   ·rw [if_pos k6] at ht
    cases hg : fnd l p.Other with
    | none => rw [hg] at ht; cases ht
    | some g => rw [hg] at ht; simp only [Option.some.injEq] at ht; subst ht; simp
   ·rw [if_neg k6] at ht; simp only [Option.some.injEq] at ht; subst ht; simp
  by_cases k4 : p.Kind = 4
  ·rw [if_neg (by omega), if_pos k4] at h
   rw [if_pos k4]
   exact chk_kind h f hm
  ·rw [if_neg k4]
   by_cases k5 : p.Kind = 5
   ·rw [if_pos k5] at h
    have hn : ¬ ((fidx l p.Other).isSome = true) := fun q => by rw [if_pos q] at h; simp at h
    rw [if_neg hn] at h
    by_cases k : l.length = 4
    ·rw [if_pos k] at h; simp at h
    ·rw [if_neg k] at h; exact chk_kind h f hm
   ·rw [if_neg k5, if_neg k4] at h; exact chk_kind h f hm
/-- A plan that goes: what it makes. -/
structure Goes (l : List aB) (p : TPlan) (f g : aB) (out : List aB) : Prop where
 fit : Fit l p f
 other : g = (fnd l p.Other).getD nilF
 out_eq : changeS f g p = (out, 0)
 ch : Changed f g p out
 res : (applyS l p).1 = sortF planCmp (out ++ rest l p)
 perm : (applyS l p).1.Perm (out ++ rest l p)
 ok : FsOk (applyS l p).1
theorem goes_of {l : List aB} {p : TPlan} (h : (applyS l p).2 = 0) : ∃ f g out, Goes l p f g out := by
 have h0 := apply_zero h
 obtain ⟨f, ft⟩ := fit_of h0
 have hf := ft.found
 have hff := ft.fs.1 f (fnd_mem hf)
 have hc : (changeS f ((fnd l p.Other).getD nilF) p).2 = 0 := by
  unfold applyS at h
  rw [if_pos h0, hf] at h
  by_cases k : (changeS f ((fnd l p.Other).getD nilF) p).2 = 0
  ·exact k
  ·rw [if_neg (by exact k)] at h; exact h
 have hg6 : p.Kind = 6 → FOk ((fnd l p.Other).getD nilF) := fun k => by
  obtain ⟨g, hg, _⟩ := ft.two k
  rw [hg]; exact ft.fs.1 g (fnd_mem hg)
 have ch := change_ok hff hg6 ft.pl (fnd_name hf) hc
 have hres : (applyS l p).1 = sortF planCmp ((changeS f ((fnd l p.Other).getD nilF) p).1 ++ rest l p) := by
  unfold applyS
  rw [if_pos h0, hf]
  show (if (changeS f ((fnd l p.Other).getD nilF) p).2 = 0 then _ else _ : List aB × Int).1 = _
  rw [if_pos hc]; rfl
 have hperm : (applyS l p).1.Perm ((changeS f ((fnd l p.Other).getD nilF) p).1 ++ rest l p) := by rw [hres]; exact sortF_perm planCmp_swo _
 have d : Dist ((changeS f ((fnd l p.Other).getD nilF) p).1 ++ rest l p) := by
  refine List.pairwise_append.2 ⟨?_, ft.fs.dist.filter _, fun m hm x hx => ?_⟩
  ·have : ((changeS f ((fnd l p.Other).getD nilF) p).1.map fun x => x.Name).Pairwise (fun a b => a ≠ b) := by
    rw [ch.names]
    by_cases k5 : p.Kind = 5
    ·rw [if_pos k5]
     have := (kind5 ft.pl k5).2.1
     simpa using fun e => this e.symm
    ·rw [if_neg k5]; simp
   exact List.pairwise_map.1 this
  ·have h1 : m.Name ∈ (changeS f ((fnd l p.Other).getD nilF) p).1.map fun x => x.Name := List.mem_map.2 ⟨m, hm, rfl⟩
   rw [ch.names] at h1
   have h2 := (List.mem_filter.1 hx).2
   intro e
   rw [← e] at h2
   have : tchB p m.Name = true := by
    by_cases k5 : p.Kind = 5
    ·rw [if_pos k5] at h1
     have q := NameOk_ne (kind5 ft.pl k5).1
     unfold tchB
     rw [decide_eq_false q]
     simp only [List.mem_cons, List.not_mem_nil, or_false] at h1
     rcases h1 with e1 | e1
     ·rw [decide_eq_true e1]; rfl
     ·rw [decide_eq_true e1]; simp
    ·rw [if_neg k5] at h1
     simp only [List.mem_singleton] at h1
     unfold tchB
     rw [decide_eq_true h1]; rfl
   rw [this] at h2; simp at h2
 have hlen : ((changeS f ((fnd l p.Other).getD nilF) p).1 ++ rest l p).length ≤ 4 := by
  have hl4 := ft.fs.2.2
  have hn : ((changeS f ((fnd l p.Other).getD nilF) p).1.map fun x => x.Name).length = _ := congrArg List.length ch.names
  rw [List.length_map] at hn
  rw [List.length_append, hn]
  by_cases k5 : p.Kind = 5
  ·have h1 := (ft.one (by omega)).length_eq
   have h2 := (ft.five k5).2
   rw [if_pos k5]
   simp only [List.length_cons, List.length_nil] at h1 ⊢; omega
  ·rw [if_neg k5]
   by_cases k6 : p.Kind = 6
   ·obtain ⟨g, _, h1⟩ := ft.two k6
    have h1 := h1.length_eq
    simp only [List.length_cons, List.length_nil] at h1 ⊢; omega
   ·have h1 := (ft.one k6).length_eq
    simp only [List.length_cons, List.length_nil] at h1 ⊢; omega
 refine ⟨f, _, _, ft, rfl, Prod.ext rfl hc, ch, hres, hperm, fun x hx => ?_, by rw [hres]; exact sort_RN d, by rw [hperm.length_eq]; exact hlen⟩
 rcases List.mem_append.1 (hperm.mem_iff.1 hx) with hx | hx
 ·exact (ch.made x hx).1.ok
 ·exact ft.fs.1 x (rest_sub hx)
structure Parts (f : aB) (p : TPlan) (out : List aB) (o : Int) : Prop where
 out : out = [madeF f.Name (f.Epoch + 1) ((viewS f).1 - o) f.Counter.Low (f.Counter.High - p.A), madeF p.Other (f.Epoch + 1) o 0 p.A]
 m1 : madeOk (f.Epoch + 1) ((viewS f).1 - o) f.Counter.Low (f.Counter.High - p.A)
 n1 : NewOk ((viewS f).1 - o) f.Counter.Low (f.Counter.High - p.A)
 m2 : madeOk (f.Epoch + 1) o 0 p.A
 n2 : NewOk o 0 p.A
def VB (b : Int) (v : Vector Int 16) : Prop := ∀ i, 0 ≤ at16 v i ∧ at16 v i ≤ b
structure RB (b : Int) (r : TRights) : Prop where
 given : VB b r.Given
 used : VB b r.Used
 moved : ∀ i, VB b (rowAt r i)
theorem VB.mono {b c : Int} {v : Vector Int 16} (h : VB b v) (hc : b ≤ c) : VB c v := fun i => ⟨(h i).1, by have := (h i).2; omega⟩
theorem RB.mono {b c : Int} {r : TRights} (h : RB b r) (hc : b ≤ c) : RB c r := ⟨h.given.mono hc, h.used.mono hc, fun i => (h.moved i).mono hc⟩
structure CB (b : Int) (c : aJ) : Prop where
 init : -1000 ≤ c.Init ∧ c.Init ≤ 1000
 down : RB b c.Down
 up : RB b c.Up
theorem CB.mono {b d : Int} {c : aJ} (h : CB b c) (hd : b ≤ d) : CB d c := ⟨h.init, h.down.mono hd, h.up.mono hd⟩
/-- Holds that are small. -/
structure HB (u : Int) (l : List THold) : Prop where
 rts : Rts l
 few_ : ∀ h ∈ l, h.Amount ≤ 3000 ∧ h.Number ≤ u
theorem HB.mono {u w : Int} {l : List THold} (h : HB u l) (hu : u ≤ w) : HB w l := ⟨h.rts, fun x hx => ⟨(h.few_ x hx).1, by have := (h.few_ x hx).2; omega⟩⟩
/-- A counter's field that is small. -/
structure LI (b u : Int) (x : aB) : Prop where
 kind : x.Kind = 1
 cb : CB b x.Counter
 hb : HB u x.Holds
theorem LI.mono {b c u w : Int} {x : aB} (h : LI b u x) (hb : b ≤ c) (hu : u ≤ w) : LI c w x := ⟨h.kind, h.cb.mono hb, h.hb.mono hu⟩
theorem LI.len {b u : Int} {x : aB} (h : LI b u x) : x.Holds.length ≤ 1000000 := by have := h.hb.rts.2.2; omega
def SmH (l : List THold) : Prop := (∀ h ∈ l, 0 ≤ h.Amount ∧ h.Amount ≤ 1073741824) ∧ l.length ≤ 40
theorem SmH.put {l : List THold} (h : SmH l) (hl : l.length ≤ 16) {X : THold} (h0 : 0 ≤ X.Amount) (h1 : X.Amount ≤ 1073741824) : SmH (putS l X) :=
 ⟨fun y hy => by
  rcases putS_mem.1 hy with rfl | hy
  ·exact ⟨h0, h1⟩
  ·exact h.1 y hy, by rw [putS_length]; omega⟩
/-- What holds of a reserve, and of its ends. -/
structure DoneR (x : aB) (k a D U : Int) (r : aB) (n : Int) : Prop where
 loose : looseS r k = (D - a, U)
 rlen : r.Holds.length ≤ 1000000
 gone : (endFd r k n 3).2 = 0
 gonel : (looseS (endFd r k n 3).1 k).1 = D
 keep : (endFd r k n 2).2 = 0
 keepl : (looseS (endFd r k n 2).1 k).1 = D - a
 view : (viewS (endFd r k n 2).1).1 = (viewS x).1 - a
 glen : (endFd r k n 3).1.Holds.length ≤ 1000000
 klen : (endFd r k n 2).1.Holds.length ≤ 1000000
theorem barrier_own_own_eq (l : List aB) (hl : Small l) : barrier_own_own l = some l := by
 have hn := hl.1
 unfold barrier_own_own
 rw [loopM_eq (q := l) (fun i s => s = (l.take i, (i : Int))) l.length (by omega) ?_ ?_ (by simp)]
 ·rfl
 ·rintro i s hi rfl
  refine .inl ⟨_, ?_, rfl⟩
  have hh := hl.at i
  simp only [barrier_own_own_L1]
  rw [if_pos (by simp; omega), six_of hi, obs, letM_eq, app_of (by simp only [List.length_nil]; omega), obs, letM_eq, app_of (by simp only [List.length_cons, List.length_nil, List.length_take]; omega), obs]
  simp only [wr_succ (show i < 1000000000000000 by omega), List.nil_append]
  congr 3
  rw [show l.getD i default = l[i] by simp [List.getD, hi]]
  exact (List.take_succ_eq_append_getElem hi).symm
 ·rintro s rfl
  simp only [barrier_own_own_L1]
  rw [if_neg (by simp)]; simp
theorem barrier_copied_own_eq (b : YbrB) (h1 : Small b.Joined) (h2 : Small b.Made) : barrier_copied_own b = some b := by
 unfold barrier_copied_own
 rw [barrier_own_own_eq _ h1, obs, barrier_own_own_eq _ h2, obs]
theorem barrier_other_eq (b : YbrB) (k : Int) : barrier_Barrier_other b k = some (decide (1 ≤ k ∧ k < b.N ∧ k < 16)) := by
 unfold barrier_Barrier_other
 refine sd ?_
 simp [and_assoc]
def allB (n : Int) : Int := wr .i64 (iShl .i64 1 (min (max n 0) 16) - 1)
theorem barrier_all_eq (b : YbrB) : barrier_Barrier_all b = some (allB b.N) := by
 unfold barrier_Barrier_all sh0
 rw [if_neg (by omega)]; rfl
/-- What is gathered of one more replica. -/
def ackS (l : List aB) : List aB → List aB × Int
 | [] => ([], 0)
 | f :: t => match fnd l f.Name with
  | none => ([], 1)
  | some g => if (joinF f g).2 = 0 then (if (ackS l t).2 = 0 then ((joinF f g).1 :: (ackS l t).1, 0) else ([], (ackS l t).2)) else ([], (joinF f g).2)
theorem ackS_cons (l : List aB) (f : aB) (t : List aB) : ackS l (f :: t) = match fnd l f.Name with
  | none => ([], 1)
  | some g => if (joinF f g).2 = 0 then (if (ackS l t).2 = 0 then ((joinF f g).1 :: (ackS l t).1, 0) else ([], (ackS l t).2)) else ([], (joinF f g).2) := rfl
theorem ackS_err {l J : List aB} (h : (ackS l J).2 ≠ 0) : (ackS l J).1 = [] := by
 cases J with
 | nil => exact (h rfl).elim
 | cons f t =>
  revert h
  rw [ackS_cons]
  cases fnd l f.Name with
  | none => intro _; rfl
  | some g =>
   intro h
   by_cases c : (joinF f g).2 = 0
   ·simp only [if_pos c] at h ⊢
    by_cases d : (ackS l t).2 = 0
    ·simp only [if_pos d] at h; exact (h rfl).elim
    ·simp only [if_neg d]
   ·simp only [if_neg c]
def zeroB : YbrB := ⟨0, 0, 0, 0, (default : TPlan), 0, 0, 0, ([] : List aB), ([] : List aB)⟩
theorem ack_loop (l : List aB) (hl : Small l) (b : YbrB) (hJ : Small b.Joined) :
  loopM (barrier_Ack_L1 l b) fuel (0, b.Joined) = some (if (ackS l b.Joined).2 = 0 then .inl (ackS l b.Joined).1 else .inr (zeroB, (ackS l b.Joined).2)) := by
 have hn := hl.1
 have hjn := hJ.1
 generalize hj : b.Joined = J at hJ hjn
 refine loopM_eq (fun i s => s.1 = (i : Int) ∧ ∃ dn : List aB, dn.length = i ∧ s.2 = dn ++ J.drop i ∧ ackS l J = (if (ackS l (J.drop i)).2 = 0 then (dn ++ (ackS l (J.drop i)).1, 0) else ([], (ackS l (J.drop i)).2))) J.length (by omega) _ ?_ ?_
  ⟨rfl, [], rfl, by simp, by
   rw [List.drop_zero]
   by_cases h : (ackS l J).2 = 0
   ·rw [if_pos h]; exact Prod.ext (by simp) h
   ·rw [if_neg h]
    exact Prod.ext (ackS_err h) rfl⟩
 ·rintro i ⟨s1, s2⟩ hi ⟨rfl, dn, hd, rfl, he⟩
  have hdr : J.drop i = J[i] :: J.drop (i + 1) := List.drop_eq_getElem_cons hi
  have hg : (dn ++ J.drop i).getD i default = J[i] := by rw [hdr, List.getD_eq_getElem?_getD, List.getElem?_append_right (by omega)]; simp [hd, hi]
  have hlen : (dn ++ J.drop i).length = J.length := by simp; omega
  have hs1 := hJ.2 J[i] (List.getElem_mem hi)
  simp only [barrier_Ack_L1]
  rw [if_pos (by rw [hj]; simp; omega), six_of (by rw [hlen]; exact hi), obs, letM_eq, hg, plan_Find_eq l _ (by omega), obs]
  rw [hdr, ackS_cons, fnd_idx] at he
  cases hf : fidx l J[i].Name with
  | none =>
   rw [hf] at he
   simp only [Option.map_none] at he
   refine .inr ?_
   simp only []
   rw [if_pos (by simp), letM_eq, he]; rfl
  | some k =>
   rw [hf] at he
   simp only [Option.map_some] at he
   have hk := fidx_lt hf
   have hs2 := hl.at k
   simp only []
   rw [if_neg (by simp), six_of hk, obs, letM_eq, field_Join_eq _ _ (by omega) (by omega), obs]
   by_cases c : (joinF J[i] (l.getD k default)).2 = 0
   ·refine .inl ⟨_, by rw [if_neg (by simp [-List.getD_eq_getElem?_getD, c]), obs, letM_eq], wr_succ (show i < 1000000000000000 by omega), dn ++ [(joinF J[i] (l.getD k default)).1], by simp [hd], ?_, ?_⟩
    ·show (dn ++ J.drop i).set i (joinF J[i] (l.getD k default)).1 = _
     rw [hdr, List.set_append, if_neg (by omega), hd, Nat.sub_self, List.set_cons_zero, List.append_assoc]; rfl
    ·rw [if_pos c] at he
     rw [he]
     by_cases d : (ackS l (J.drop (i + 1))).2 = 0
     ·simp only [if_pos d]; simp
     ·simp only [if_neg d]
   ·refine .inr ?_
    rw [if_pos (by simp [-List.getD_eq_getElem?_getD, c]), letM_eq]
    rw [if_neg c] at he
    simp only [if_neg c] at he
    rw [he]
    simp only [if_neg c]
    rfl
 ·rintro ⟨s1, s2⟩ ⟨rfl, dn, hd, rfl, he⟩
  simp only [barrier_Ack_L1]
  rw [if_neg (by rw [hj]; simp), List.drop_length]
  rw [List.drop_length] at he
  rw [he]
  simp [ackS]
theorem ack_epochs (b : YbrB) (r : List aB × Int) (h : r.1.length ≤ 1000) : loopM (barrier_Ack_L2 b r) fuel (0, r.1) = some (r.1.map fun f => { f with Epoch := b.Epoch }) := by
 generalize hl : r.1 = l at h
 refine loopM_eq (fun i s => s = ((i : Int), (l.take i).map (fun f => { f with Epoch := b.Epoch }) ++ l.drop i)) l.length (by omega) _ ?_ ?_ (by simp)
 ·rintro i s hi rfl
  have hlen : ((l.take i).map (fun f : aB => { f with Epoch := b.Epoch }) ++ l.drop i).length = l.length := by simp; omega
  have hg : ((l.take i).map (fun f : aB => { f with Epoch := b.Epoch }) ++ l.drop i).getD i default = l.getD i default := by
   rw [List.getD_eq_getElem?_getD, List.getElem?_append_right (by simp; omega), List.getD_eq_getElem?_getD]
   simp [Nat.min_eq_left (Nat.le_of_lt hi)]
  refine .inl ⟨_, ?_, rfl⟩
  simp only [barrier_Ack_L2]
  rw [if_pos (by rw [hl]; simp; omega), six_of (by rw [hlen]; exact hi), obs, letM_eq, hg, mid_set (fun f : aB => { f with Epoch := b.Epoch }) l i hi]
  simp only [wr_succ (show i < 1000000000000000 by omega)]
 ·rintro s rfl
  simp only [barrier_Ack_L2]
  rw [if_neg (by rw [hl]; simp)]; simp
theorem plan_Apply_own_eq (l : List aB) (p : TPlan) (hl : Small l) (hk : inI64 p.Kind = true) (h1 : p.Name.size ≤ 1000000) (h2 : p.Other.size ≤ 1000000) : plan_Apply_own l p = some (applyS l p) := by
 have hn := hl.1
 unfold plan_Apply_own applyS
 rw [plan_Fits_eq l p hl hk h1 h2, obs]
 by_cases h0 : fitsS l p = 0
 rotate_left
 ·rw [if_neg h0, if_pos (by simp [h0])]
 rw [if_pos h0, if_neg (by simp [h0]), plan_Find_eq l _ (by omega), obs, plan_Find_eq l _ (by omega), obs]
 obtain ⟨c1, c2, t, ht⟩ := fits_found h0
 obtain ⟨f, hf⟩ := tch_fnd ht
 have hs : ∀ x : List aB, x.length ≤ 2 → sortM planCmp (x ++ rest l p) = some (sortF planCmp (x ++ rest l p)) := fun x hx => by
  unfold sortM
  rw [if_pos]
  have : (rest l p).length ≤ l.length := List.length_filter_le _ _
  simp only [List.length_append]; omega
 rw [hf]
 rw [fnd_idx] at hf
 obtain ⟨i, hi, hfi⟩ := Option.map_eq_some_iff.1 hf
 rw [hi]
 have hgi : ∀ g : aB, (Option.bind (plan_change_own f g p) fun r10 =>
   if (!decide (r10.2 = 0)) = true then some (([] : List aB), r10.2)
   else Option.bind (loopM (plan_Apply_own_L1 l p) fuel (0, r10.1)) fun x13 => Option.bind (sortM planCmp x13) fun l20 => some (l20, 0)) =
   some (if (changeS f g p).2 = 0 then (sortF planCmp ((changeS f g p).1 ++ rest l p), 0) else ([], (changeS f g p).2)) := fun g => by
  rw [plan_change_eq, obs]
  by_cases h : (changeS f g p).2 = 0
  ·have := changeS_len f g p
   rw [if_pos h, if_neg (by simp [h]), apply_loop l p hl _ (by omega) (fun i s => rfl), obs, hs _ this, obs]
  ·rw [if_neg h, if_pos (by simp [h])]
 cases hg : fidx l p.Other with
 | none =>
  have e : fnd l p.Other = none := by rw [fnd_idx, hg]; rfl
  rw [e]
  simp only []
  rw [if_neg (by simp), six_of (fidx_lt hi), obs, letM_eq, hfi]
  exact hgi nilF
 | some k =>
  have e : fnd l p.Other = some (l.getD k default) := by rw [fnd_idx, hg]; rfl
  rw [e]
  simp only []
  rw [if_pos trivial, six_of (fidx_lt hg), obs, letM_eq, six_of (fidx_lt hi), obs, letM_eq, hfi]
  exact hgi _
theorem ackS_small {l : List aB} : ∀ {J : List aB}, Small J → Small (ackS l J).1
 | [], _ => ⟨by simp [ackS], by simp [ackS]⟩
 | f :: t, h => by
  have ih := ackS_small (l := l) (J := t) ⟨by have := h.1; simp only [List.length_cons] at this; omega, fun y hy => h.2 y (by simp [hy])⟩
  have hlen : (ackS l t).1.length ≤ t.length := by
   have : ∀ J : List aB, (ackS l J).1.length ≤ J.length := by
    intro J
    induction J with
    | nil => simp [ackS]
    | cons f t ih =>
     rw [ackS_cons]
     repeat' split
     all_goals simp
     all_goals omega
   exact this t
  have hf := h.2 f (by simp)
  have h1 := h.1
  simp only [List.length_cons] at h1
  have z : Small ([] : List aB) := ⟨by simp, by simp⟩
  rw [ackS_cons]
  cases fnd l f.Name with
  | none => exact z
  | some g =>
   by_cases c : (joinF f g).2 = 0
   ·simp only [if_pos c]
    by_cases d : (ackS l t).2 = 0
    ·simp only [if_pos d]
     refine ⟨by simp only [List.length_cons]; omega, fun y hy => ?_⟩
     rcases List.mem_cons.1 hy with rfl | hy
     ·obtain ⟨_, _, _, e⟩ := joinF_zero c
      rw [e]
      exact ⟨hf.1, by have := JS_len f.Holds g.Holds; simp only; omega⟩
     ·exact ih.2 y hy
    ·simp only [if_neg d]; exact z
   ·simp only [if_neg c]; exact z
/-- A replica is frozen. -/
def ackB (b : YbrB) (k number : Int) (l : List aB) : YbrB × Int :=
 if 1 ≤ k ∧ k < b.N ∧ k < 16 then (if b.State = 1 ∧ number = b.Number then (if (ackS l b.Joined).2 = 0 then
  (if iOr .i64 b.Acked (iShl .i64 1 k) = allB b.N then
   (if (applyS (ackS l b.Joined).1 b.Plan).2 = 0 then ({ b with State := 2, Acked := iOr .i64 b.Acked (iShl .i64 1 k), Joined := (ackS l b.Joined).1, Made := (applyS (ackS l b.Joined).1 b.Plan).1.map fun f => { f with Epoch := b.Epoch } }, 0)
    else ({ b with State := 3, Acked := iOr .i64 b.Acked (iShl .i64 1 k), Joined := (ackS l b.Joined).1 }, 0))
   else ({ b with Acked := iOr .i64 b.Acked (iShl .i64 1 k), Joined := (ackS l b.Joined).1 }, 0))
  else (zeroB, (ackS l b.Joined).2)) else (zeroB, 12)) else (zeroB, 1)
theorem barrier_Ack_eq (b : YbrB) (k number : Int) (l : List aB) (hl : Small l) (hJ : Small b.Joined) (hJ2 : b.Joined.length ≤ 900) (hM : Small b.Made) (hk : inI64 b.Plan.Kind = true) (h1 : b.Plan.Name.size ≤ 1000000) (h2 : b.Plan.Other.size ≤ 1000000)
  (h3 : (applyS (ackS l b.Joined).1 b.Plan).1.length ≤ 1000) : barrier_Ack b k number l = some (ackB b k number l) := by
 unfold barrier_Ack ackB
 rw [barrier_other_eq, obs]
 by_cases c1 : 1 ≤ k ∧ k < b.N ∧ k < 16
 rotate_left
 ·rw [if_neg c1, if_pos (by rw [decide_eq_false c1]; rfl)]; rfl
 rw [if_pos c1, if_neg (by rw [decide_eq_true c1]; simp), letM_eq]
 by_cases c2 : b.State = 1 ∧ number = b.Number
 rotate_left
 ·rw [if_neg c2, if_pos]
  ·rfl
  ·simp only [Bool.or_eq_true, Bool.not_eq_true', decide_eq_false_iff_not]
   exact Classical.byContradiction fun q => c2 (by simp only [not_or, Classical.not_not] at q; exact q)
 rw [if_pos c2, if_neg (by simp [c2.1, c2.2]), barrier_copied_own_eq b hJ hM, obs, ack_loop l hl b hJ, obs]
 by_cases c3 : (ackS l b.Joined).2 = 0
 rotate_left
 ·rw [if_neg c3, if_neg c3]; rfl
 rw [if_pos c3, if_pos c3]
 simp only [onS]
 have hs := ackS_small (l := l) hJ
 rw [show sh0 k = some () by unfold sh0; rw [if_neg (by omega)], obs, barrier_all_eq, obs]
 by_cases c4 : iOr .i64 b.Acked (iShl .i64 1 k) = allB b.N
 rotate_left
 ·rw [if_neg c4, if_pos (by rw [decide_eq_false c4]; rfl)]; rfl
 rw [if_pos c4, if_neg (by rw [decide_eq_true c4]; simp), plan_Apply_own_eq _ _ hs hk h1 h2, obs]
 by_cases c5 : (applyS (ackS l b.Joined).1 b.Plan).2 = 0
 ·rw [if_pos (by simp [c5]), if_pos c5, ack_epochs b _ h3, obs]
 ·rw [if_neg (by simp [c5]), if_neg c5]; rfl
/-- The names stay. -/
theorem ackS_names {l : List aB} : ∀ {J : List aB}, (ackS l J).2 = 0 → (ackS l J).1.map (fun f => f.Name) = J.map fun f => f.Name
 | [], _ => rfl
 | f :: t, h => by
  rw [ackS_cons] at h ⊢
  cases hf : fnd l f.Name with
  | none => rw [hf] at h; simp at h
  | some g =>
   rw [hf] at h
   simp only at h ⊢
   by_cases c : (joinF f g).2 = 0
   ·rw [if_pos c] at h ⊢
    by_cases d : (ackS l t).2 = 0
    ·rw [if_pos d]
     obtain ⟨_, _, _, e⟩ := joinF_zero c
     simp only [List.map_cons, ackS_names d]
     rw [e]
    ·rw [if_neg d] at h; exact (d h).elim
   ·rw [if_neg c] at h; exact (c h).elim
theorem barrier_own_eq (l : List aB) (hl : Small l) : barrier_own l = some l := by
 have hn := hl.1
 unfold barrier_own
 rw [loopM_eq (q := l) (fun i s => s = ((i : Int), l.take i)) l.length (by omega) ?_ ?_ (by simp)]
 ·rfl
 ·rintro i s hi rfl
  refine .inl ⟨_, ?_, rfl⟩
  have hh := hl.at i
  simp only [barrier_own_L1]
  rw [if_pos (by simp; omega), six_of hi, obs, letM_eq, app_of (by simp only [List.length_nil]; omega), obs, letM_eq, app_of (by simp only [List.length_cons, List.length_nil, List.length_take]; omega), obs]
  simp only [wr_succ (show i < 1000000000000000 by omega), List.nil_append]
  congr 4
  rw [show l.getD i default = l[i] by simp [List.getD, hi]]
  exact (List.take_succ_eq_append_getElem hi).symm
 ·rintro s rfl
  simp only [barrier_own_L1]
  rw [if_neg (by simp)]; simp
theorem barrier_New_eq (n : Int) : barrier_New n = some (if 2 ≤ n ∧ n ≤ 16 then ({ zeroB with N := n }, 0) else (zeroB, 1)) := by
 unfold barrier_New
 by_cases h : 2 ≤ n ∧ n ≤ 16
 ·rw [if_pos h, if_neg (by simp; omega)]; rfl
 ·rw [if_neg h, if_pos (by simp; omega)]; rfl
def pend (b : YbrB) : Prop := b.State = 1 ∨ ((b.State = 2 ∨ b.State = 3) ∧ b.Told ≠ allB b.N)
instance (b : YbrB) : Decidable (pend b) := by unfold pend; infer_instance
def abt (p : TPlan) (f : aB) : Bool := tchB p f.Name
theorem start1_eq (f : aB) (p : TPlan) : barrier_Start_1 f p = some (!abt p f) := by
 unfold barrier_Start_1
 rw [plan_Touched_eq, obs]; rfl
theorem index_Start_eq (l : List aB) (p : TPlan) (hl : l.length ≤ 1000000) : slices_IndexFunc_Field_Start_1 p l = some (match l.findIdx? (fun f => !abt p f) with | some i => (i : Int) | none => -1) := by
 unfold slices_IndexFunc_Field_Start_1
 rw [loop_first l (by omega) (fun f => !abt p f) (fun i => (i : Int)) () (fun i hi => ?_) (by simp [slices_IndexFunc_Field_Start_1_L1])]
 ·cases l.findIdx? (fun f => !abt p f) <;> rfl
 ·simp only [slices_IndexFunc_Field_Start_1_L1, start1_eq, six_of hi, letM_eq, Option.bind]
  rw [if_pos (by simp; omega)]
  simp only [wr_succ (show i < 1000000000000000 by omega)]
  split <;> rfl
theorem filter_all {α : Type} {l : List α} {q : α → Bool} (h : ∀ x ∈ l, q x = true) : l.filter q = l := List.filter_eq_self.2 h
/-- slices.DeleteFunc: what is left stands first. -/
theorem delete_Start_eq (l : List aB) (p : TPlan) (hl : l.length ≤ 1000000) : ∃ n xs, slices_DeleteFunc_Field_Start_1 p l = some (n, xs) ∧ n ≤ xs.length ∧ xs.take n = l.filter (abt p) := by
 unfold slices_DeleteFunc_Field_Start_1
 rw [index_Start_eq l p hl, obs]
 cases hx : l.findIdx? (fun f => !abt p f) with
 | none =>
  refine ⟨_, _, by rw [if_pos (by simp)], Nat.le_refl _, ?_⟩
  rw [List.take_length, filter_all]
  intro x hm
  have := List.findIdx?_eq_none_iff.1 hx x hm
  simpa using this
 | some k =>
  have hk : k < l.length := (List.findIdx?_eq_some_iff_getElem.1 hx).1
  have hbef : ∀ j (h : j < k), abt p (l[j]'(by omega)) = true := fun j h => by
   have := (List.findIdx?_eq_some_iff_getElem.1 hx).2.2 j h
   simpa using this
  have hat : abt p l[k] = false := by have := (List.findIdx?_eq_some_iff_getElem.1 hx).2.1; simpa using this
  simp only
  rw [if_neg (by simp <;> omega)]
  have h0 : (l.take (k + 1)).filter (abt p) = l.take k := by
   rw [List.take_succ_eq_append_getElem hk, List.filter_append, List.filter_cons, if_neg (by simp [hat]), List.filter_nil, List.append_nil, filter_all]
   intro x hm
   obtain ⟨j, hj, rfl⟩ := List.getElem_of_mem hm
   simp only [List.length_take] at hj
   rw [List.getElem_take]
   exact hbef j (by omega)
  have key : ∃ r : List aB × Int, loopM (slices_DeleteFunc_Field_Start_1_L1 p) fuel (l, wr .i64 ((k : Int) + 1), (k : Int)) = some r ∧ ∃ i : Nat, r.2 = (i : Int) ∧ i < l.length ∧ r.1.length = l.length ∧ r.1.take i = l.filter (abt p) := by
   refine loopM_ind (body := slices_DeleteFunc_Field_Start_1_L1 p) (fun m (s : List aB × Int × Int) => ∃ i : Nat, s.2.1 = ((k + 1 + m : Nat) : Int) ∧ s.2.2 = (i : Int) ∧ i < k + 1 + m ∧ s.1.length = l.length ∧ s.1.take i = (l.take (k + 1 + m)).filter (abt p) ∧ s.1.drop (k + 1 + m) = l.drop (k + 1 + m)) (l.length - (k + 1)) (by omega)
    (fun r : List aB × Int => ∃ i : Nat, r.2 = (i : Int) ∧ i < l.length ∧ r.1.length = l.length ∧ r.1.take i = l.filter (abt p)) (fun m s hm hI => ?_) (fun s hI => ?_) (s0 := (l, wr .i64 ((k : Int) + 1), (k : Int))) ⟨k, by rw [wr_succ (by omega)], rfl, by omega, rfl, by rw [Nat.add_zero, h0], rfl⟩
   ·obtain ⟨xs, jj, ii⟩ := s
    obtain ⟨i, e1, e2, hi, hlen, hpre, hpost⟩ := hI
    simp only at e1 e2 hi hlen hpre hpost
    subst e1 e2
    have hj : k + 1 + m < l.length := by omega
    have hg : xs.getD (k + 1 + m) default = l[k + 1 + m] := by
     have : (xs.drop (k + 1 + m))[0]? = (l.drop (k + 1 + m))[0]? := by rw [hpost]
     rw [List.getElem?_drop, List.getElem?_drop, Nat.add_zero] at this
     rw [List.getD_eq_getElem?_getD, this]
     simp [hj]
    have htk : (l.take (k + 1 + (m + 1))).filter (abt p) = (l.take (k + 1 + m)).filter (abt p) ++ (if abt p l[k + 1 + m] = true then [l[k + 1 + m]] else []) := by
     rw [show k + 1 + (m + 1) = (k + 1 + m) + 1 by omega, List.take_succ_eq_append_getElem hj, List.filter_append, List.filter_cons]; rfl
    refine .inl ?_
    simp only [slices_DeleteFunc_Field_Start_1_L1]
    rw [if_pos (by simp; omega), six_of (by omega), obs, letM_eq, hg, start1_eq, obs]
    by_cases h : abt p l[k + 1 + m] = true
    ·refine ⟨_, by rw [if_pos (by simp [h]), six_of (by omega), obs, letM_eq], i + 1, ?_, ?_, by omega, by simpa using hlen, ?_, ?_⟩
     ·simp only; rw [wr_succ (by omega)]; omega
     ·simp only; rw [wr_succ (by omega)]
     ·rw [htk, if_pos h, ← hpre]
      simp only
      rw [List.take_succ_eq_append_getElem (by simp; omega), List.take_set_of_le (by omega)]
      simp
     ·simp only
      rw [show k + 1 + (m + 1) = (k + 1 + m) + 1 by omega, List.drop_set_of_lt (by omega), ← List.drop_drop, hpost, List.drop_drop]
    ·refine ⟨_, by rw [if_neg (by simp [h])], i, ?_, rfl, by omega, hlen, ?_, ?_⟩
     ·simp only; rw [wr_succ (by omega)]; omega
     ·rw [htk, if_neg h, List.append_nil, ← hpre]
     ·simp only
      rw [show k + 1 + (m + 1) = (k + 1 + m) + 1 by omega, ← List.drop_drop, hpost, List.drop_drop]
   ·obtain ⟨xs, jj, ii⟩ := s
    obtain ⟨i, e1, e2, hi, hlen, hpre, hpost⟩ := hI
    simp only at e1 e2 hi hlen hpre hpost
    subst e1 e2
    have hj : k + 1 + (l.length - (k + 1)) = l.length := by omega
    rw [hj] at hi hpre
    refine ⟨(xs, (i : Int)), ?_, i, rfl, hi, hlen, ?_⟩
    ·simp only [slices_DeleteFunc_Field_Start_1_L1]
     rw [if_neg (by simp; omega)]
    ·rw [hpre, List.take_length]
  obtain ⟨⟨xs, i⟩, hr, i', rfl, hi', hlen, hpre⟩ := key
  simp only at hlen hpre
  rw [hr, obs]
  simp only
  rw [six_of (by rw [hlen]; exact hi'), obs, letM_eq]
  have hcl : (clr xs i' (⟨(default : ByteArray), 0, 0, (default : aJ), (default : TLock), ([] : List THold)⟩ : aB)).length = l.length := by simp [clr]; omega
  refine ⟨i', clr xs i' (⟨(default : ByteArray), 0, 0, (default : aJ), (default : TLock), ([] : List THold)⟩ : aB), ?_, by omega, ?_⟩
  ·unfold spre
   rw [if_pos (by rw [hcl]; omega)]; rfl
  ·unfold clr
   rw [List.take_left' (by rw [List.length_take]; omega), hpre]
def maxE (l : List aB) : Int := l.foldl (fun m f => max m (f.Epoch + 1)) 1
theorem start_epoch (l : List aB) (hl : l.length ≤ 1000000) (h : ∀ f ∈ l, FOk f) : loopM (barrier_Start_L1 l) fuel (0, 1) = some (maxE l) := by
 have := (loop_fold (body := barrier_Start_L1 l) l.length (by omega) (fun s i => max s ((l.getD i default).Epoch + 1)) (fun s => s) (fun _ _ => True) (s0 := 1) trivial (fun i s hi _ => ⟨?_, trivial⟩) (fun s _ => ?_)).1
 ·rw [this, foldl_range_list l default (fun s f => max s (f.Epoch + 1)) 1]; rfl
 ·have hf := (h (l.getD i default) (by rw [show l.getD i default = l[i] by simp [List.getD, hi]]; exact List.getElem_mem hi)).2.1
  simp only [barrier_Start_L1]
  rw [if_pos (by simp; omega), six_of hi, obs, letM_eq, letM_eq]
  simp only [wr_succ (show i < 1000000000000000 by omega)]
  rw [wr_id (n := (l.getD i default).Epoch + 1) (by unfold cnt IsN at hf; omega)]
 ·simp only [barrier_Start_L1]
  rw [if_neg (by simp)]
/-- How a plan begins. -/
def startB (b : YbrB) (l : List aB) (p : TPlan) (due : Int) : YbrB × Int :=
 if pend b then (zeroB, 15) else if fitsS l p = 0 then (if 1099511627776 < maxE l then (zeroB, 2) else (⟨b.N, 1, wr .i64 (b.Number + 1), maxE l, p, due, 1, 1, l.filter (abt p), []⟩, 0)) else (zeroB, fitsS l p)
theorem barrier_Pending_eq (b : YbrB) : barrier_Pending b = some (decide (pend b)) := by
 unfold barrier_Pending pend
 by_cases h1 : b.State = 1
 ·simp [h1, letM, gd]
 ·by_cases h2 : b.State = 2 <;> by_cases h3 : b.State = 3 <;> simp [h1, h2, h3, letM, gd, barrier_all_eq]
theorem Small.filter {l : List aB} (h : Small l) (q : aB → Bool) : Small (l.filter q) := ⟨by have := List.length_filter_le q l; have := h.1; omega, fun f hf => h.2 f (List.mem_filter.1 hf).1⟩
theorem barrier_Start_eq (b : YbrB) (l : List aB) (p : TPlan) (due : Int) (hl : Small l) (hk : inI64 p.Kind = true) (h1 : p.Name.size ≤ 1000000) (h2 : p.Other.size ≤ 1000000) : barrier_Start b l p due = some (startB b l p due) := by
 have hn := hl.1
 unfold barrier_Start startB
 rw [barrier_Pending_eq, obs]
 by_cases c1 : pend b
 ·rw [if_pos c1, if_pos (by simp [c1])]; rfl
 rw [if_neg c1, if_neg (by simp [c1]), plan_Fits_eq l p hl hk h1 h2, obs]
 by_cases c2 : fitsS l p = 0
 rotate_left
 ·rw [if_neg c2, if_pos (by simp [c2])]; rfl
 rw [if_pos c2, if_neg (by simp [c2]), start_epoch l (by omega) (fits_found c2).1.1, obs]
 by_cases c3 : 1099511627776 < maxE l
 ·rw [if_pos c3, if_pos (by simpa using c3)]; rfl
 rw [if_neg c3, if_neg (by simpa using c3), app_of (by simp only [List.length_nil]; omega), obs, List.nil_append]
 obtain ⟨n, xs, e1, e2, e3⟩ := delete_Start_eq l p (by omega)
 rw [e1, obs]
 simp only
 rw [show prek xs n = some () by unfold prek; rw [if_pos e2], obs, e3, barrier_own_eq _ (hl.filter _), obs]; rfl
theorem awake16_eq : ul16_awake = some true := by decide +kernel
theorem made_map_small {l : List aB} (h : Small l) (e : Int) : Small (l.map fun f : aB => { f with Epoch := e }) := ⟨by simpa using h.1, fun f hf => by
 obtain ⟨g, hg, rfl⟩ := List.mem_map.1 hf
 exact h.2 g hg⟩
theorem Small.nil : Small [] := ⟨by simp, by simp⟩
theorem ref04_New_eq (i l h : Int) : ur04_New i l h = some (if NewOk i l h then (newC i l h, 0) else (zeroC, 2)) := by
 unfold ur04_New
 simp only [ref_Is_eq, gd_nb, Option.bind, letM_eq]
 by_cases hn : NewOk i l h
 ·have hn' := hn
  unfold NewOk IsN at hn'
  have w1 : wr .i64 (h - l) = h - l := wr_id (by omega)
  have w2 : wr .i64 (i - l) = i - l := wr_id (by omega)
  have w3 : wr .i64 (h - i) = h - i := wr_id (by omega)
  rw [if_pos hn, if_neg, show fix_ 16 0 = some (0 : Fin 16) from rfl]
  ·simp only [w2, w3]; rfl
  ·simp [hn.1, hn.2.1, hn.2.2.1, w1]; omega
 ·rw [if_neg hn, if_pos]
  ·rfl
  ·unfold NewOk at hn
   by_cases a : IsN i
   ·by_cases b : IsN l
    ·by_cases c : IsN h
     ·have w1 : wr .i64 (h - l) = h - l := wr_id (by unfold IsN at a b c; omega)
      simp only [a, b, c, w1, decide_true, Bool.not_true, Bool.false_or, Bool.or_eq_true, decide_eq_true_eq, if_true]
      simp only [a, b, c, true_and] at hn
      unfold IsN at hn a b c
      first | omega | (simp; omega)
     ·simp [a, b, c]
    ·simp [a, b]
   ·simp [a]
theorem ref13_count_eq (n : ByteArray) (e v lo hi : Int) : ur13_count n e v lo hi = some (madeS n e v lo hi) := by
 unfold ur13_count madeS
 simp only [ref_Is_eq, gd_nb, Option.bind, letM_eq, ref04_New_eq]
 by_cases h : IsN e ∧ IsN v ∧ IsN lo ∧ IsN hi
 ·obtain ⟨h1, h2, h3, h4⟩ := h
  have w : wr .i64 (hi - lo) = hi - lo := wr_id (by unfold IsN at h3 h4; omega)
  by_cases h5 : IsN (hi - lo)
  ·rw [if_pos (show madeOk e v lo hi from ⟨h1, h2, h3, h4, h5⟩), if_neg (by simp [h1, h2, h3, h4, h5, w])]
   by_cases h6 : NewOk v lo hi
   ·rw [if_pos h6, if_pos h6]; rfl
   ·rw [if_neg h6, if_neg h6]; rfl
  ·rw [if_neg (fun k : madeOk e v lo hi => h5 k.2.2.2.2), if_pos (by simp [h1, h2, h3, h4, h5, w])]; rfl
 ·rw [if_neg (fun k : madeOk e v lo hi => h ⟨k.1, k.2.1, k.2.2.1, k.2.2.2.1⟩), if_pos]
  ·rfl
  ·by_cases a : IsN e
   ·by_cases b : IsN v
    ·by_cases c : IsN lo
     ·by_cases d : IsN hi
      ·exact (h ⟨a, b, c, d⟩).elim
      ·simp [a, b, c, d]
     ·simp [a, b, c]
    ·simp [a, b]
   ·simp [a]
/-- One more, in its place. -/
def insF (f : aB) : List aB → List aB
 | [] => [f]
 | g :: t => if RN g f then g :: insF f t else f :: g :: t
theorem insF_perm (f : aB) : ∀ l, (insF f l).Perm (f :: l)
 | [] => .refl _
 | g :: t => by
  unfold insF
  by_cases h : RN g f
  ·rw [if_pos h]; exact ((insF_perm f t).cons g).trans (List.Perm.swap f g t)
  ·rw [if_neg h]
theorem RN.of {a b : aB} (h : ¬ RN a b) (n : a.Name ≠ b.Name) : RN b a := by
 unfold RN at *
 cases k : bLs b.Name a.Name with
 | true => rfl
 | false => exact (n (bLs_tri (by simpa using h) k)).elim
theorem insF_sorted (f : aB) : ∀ l : List aB, l.Pairwise RN → (∀ x ∈ l, x.Name ≠ f.Name) → (insF f l).Pairwise RN
 | [], _, _ => by simp [insF]
 | g :: t, h, n => by
  obtain ⟨h1, h2⟩ := List.pairwise_cons.1 h
  unfold insF
  by_cases c : RN g f
  ·rw [if_pos c, List.pairwise_cons]
   refine ⟨fun x hx => ?_, insF_sorted f t h2 fun x hx => n x (by simp [hx])⟩
   rcases List.mem_cons.1 ((insF_perm f t).mem_iff.1 hx) with rfl | hx
   ·exact c
   ·exact h1 x hx
  ·rw [if_neg c, List.pairwise_cons]
   have hf := RN.of c (n g (by simp))
   refine ⟨fun x hx => ?_, h⟩
   rcases List.mem_cons.1 hx with rfl | hx
   ·exact hf
   ·exact RN.trans hf (h1 x hx)
def cutF (f : aB) : List aB → Nat
 | [] => 0
 | g :: t => if RN g f then cutF f t + 1 else 0
theorem cutF_le (f : aB) : ∀ l, cutF f l ≤ l.length
 | [] => Nat.le_refl _
 | g :: t => by unfold cutF; split <;> simp [cutF_le f t]
theorem cutF_ins (f : aB) : ∀ l, insF f l = l.take (cutF f l) ++ f :: l.drop (cutF f l)
 | [] => rfl
 | g :: t => by
  unfold insF cutF
  by_cases c : RN g f
  ·rw [if_pos c, if_pos c, cutF_ins f t]; rfl
  ·rw [if_neg c, if_neg c]; rfl
theorem cutF_bef (f : aB) : ∀ (l : List aB) (i : Nat) (h : i < cutF f l), RN (l[i]'(by have := cutF_le f l; omega)) f
 | [], i, h => by simp [cutF] at h
 | g :: t, i, h => by
  unfold cutF at h
  by_cases c : RN g f
  ·rw [if_pos c] at h
   cases i with
   | zero => exact c
   | succ i => exact cutF_bef f t i (by omega)
  ·rw [if_neg c] at h; omega
theorem cutF_at (f : aB) : ∀ (l : List aB) (h : cutF f l < l.length), ¬ RN (l[cutF f l]'h) f
 | [], h => by simp at h
 | g :: t, h => by
  by_cases c : RN g f
  ·have e : cutF f (g :: t) = cutF f t + 1 := by show (if RN g f then cutF f t + 1 else 0) = _; rw [if_pos c]
   have h2 : cutF f t < t.length := by rw [e] at h; simpa using h
   have := cutF_at f t h2
   simpa [e] using this
  ·have e : cutF f (g :: t) = 0 := by show (if RN g f then cutF f t + 1 else 0) = _; rw [if_neg c]
   simpa [e] using c
theorem ref13_put_eq (l : List aB) (f : aB) (hl : Small l) : ur13_put_own l f = some (insF f l) := by
 have hn := hl.1
 unfold ur13_put_own
 have hc := cutF_le f l
 rw [loopM_eq (body := ur13_put_own_L1 l f) (q := ((cutF f l : Nat) : Int)) (fun i s => s = (i : Int)) (cutF f l) (by omega) ?_ ?_ (by rfl), obs]
 ·have s1 : ssl l 0 ((cutF f l : Nat) : Int) = some (l.take (cutF f l)) := by unfold ssl; rw [if_pos (by omega)]; simp
  have s2 : ssl l ((cutF f l : Nat) : Int) (l.length : Int) = some (l.drop (cutF f l)) := by unfold ssl; rw [if_pos (by omega)]; simp
  rw [s1, obs, app_of (by simp only [List.length_nil, List.length_take]; omega), obs, app_of (by simp only [List.length_nil, List.length_take, List.nil_append, List.length_cons]; omega), obs, s2, obs,
   app_of (by simp only [List.length_nil, List.length_take, List.nil_append, List.length_cons, List.length_append, List.length_drop]; omega), obs, cutF_ins f l]
  simp
 ·rintro i s hi rfl
  refine .inl ⟨_, ?_, rfl⟩
  have hs := hl.at i
  have hb := cutF_bef f l i hi
  simp only [ur13_put_own_L1]
  rw [gd_t (by simp; omega), six_of (by omega), obs, gd_t (by simp; omega), before_eq _ _ (by omega), obs]
  rw [show l.getD i default = l[i]'(by omega) by simp [List.getD, show i < l.length by omega]]
  rw [if_pos (by rw [show bLs (l[i]'(by omega)).Name f.Name = true from hb]; simp; omega), wr_succ (by omega)]
 ·rintro s rfl
  simp only [ur13_put_own_L1]
  by_cases h : cutF f l < l.length
  ·have hs := hl.at (cutF f l)
   have hb := cutF_at f l h
   rw [gd_t (by simp; omega), six_of h, obs, gd_t (by simp; omega), before_eq _ _ (by omega), obs]
   rw [show l.getD (cutF f l) default = l[cutF f l] by simp [List.getD, h]]
   rw [if_neg (by rw [show bLs (l[cutF f l]).Name f.Name = false by simpa [RN] using hb]; simp)]
  ·rw [gd_f (by simp; omega), obs, gd_f (by simp; omega), obs, if_neg (by simp <;> omega)]
theorem apply_one {l : List aB} {p : TPlan} {f x : aB} (h0 : fitsS l p = 0) (hf : fnd l p.Name = some f) (h : changeS f ((fnd l p.Other).getD nilF) p = ([x], 0)) : insF x (rest l p) = (applyS l p).1 ∧ (applyS l p).2 = 0 := by
 have h2 : (applyS l p).2 = 0 := by unfold applyS; rw [if_pos h0, hf]; show (if (changeS f ((fnd l p.Other).getD nilF) p).2 = 0 then _ else _ : List aB × Int).2 = 0; rw [h]; rfl
 refine ⟨?_, h2⟩
 obtain ⟨f', g', out, go⟩ := goes_of h2
 have e1 : f' = f := by have := go.fit.found; rw [hf] at this; cases this; rfl
 subst e1
 have e2 := go.out_eq
 rw [go.other, h] at e2
 cases e2
 have hp : (insF x (rest l p)).Perm (applyS l p).1 := (insF_perm x _).trans go.perm.symm
 have d := Dist.perm go.perm go.ok.dist
 refine hp.eq_of_pairwise (le := RN) (fun a b _ _ h k => ?_) (insF_sorted x _ (go.fit.fs.2.1.filter _) fun y hy => ((List.pairwise_cons.1 d).1 y hy).symm) go.ok.2.1
 unfold RN at h k
 rw [bLs_asymm h] at k; cases k
theorem apply_two {l : List aB} {p : TPlan} {f x y : aB} (h0 : fitsS l p = 0) (hf : fnd l p.Name = some f) (h : changeS f ((fnd l p.Other).getD nilF) p = ([x, y], 0)) : insF x (insF y (rest l p)) = (applyS l p).1 ∧ (applyS l p).2 = 0 := by
 have h2 : (applyS l p).2 = 0 := by unfold applyS; rw [if_pos h0, hf]; show (if (changeS f ((fnd l p.Other).getD nilF) p).2 = 0 then _ else _ : List aB × Int).2 = 0; rw [h]; rfl
 refine ⟨?_, h2⟩
 obtain ⟨f', g', out, go⟩ := goes_of h2
 have e1 : f' = f := by have := go.fit.found; rw [hf] at this; cases this; rfl
 subst e1
 have e2 := go.out_eq
 rw [go.other, h] at e2
 cases e2
 have hp : (insF x (insF y (rest l p))).Perm (applyS l p).1 := ((insF_perm x _).trans ((insF_perm y _).cons x)).trans go.perm.symm
 have d := Dist.perm go.perm go.ok.dist
 obtain ⟨d1, d2⟩ := List.pairwise_cons.1 d
 refine hp.eq_of_pairwise (le := RN) (fun a b _ _ h k => ?_) (insF_sorted x _ (insF_sorted y _ (go.fit.fs.2.1.filter _) fun z hz => ((List.pairwise_cons.1 d2).1 z hz).symm) fun z hz => ?_) go.ok.2.1
 ·unfold RN at h k
  rw [bLs_asymm h] at k; cases k
 ·exact (d1 z ((insF_perm y _).mem_iff.1 hz)).symm
theorem apply_none {l : List aB} {p : TPlan} {f : aB} {e : Int} {o : List aB} (h0 : fitsS l p = 0) (hf : fnd l p.Name = some f) (h : changeS f ((fnd l p.Other).getD nilF) p = (o, e)) (he : e ≠ 0) : applyS l p = ([], e) := by
 unfold applyS
 rw [if_pos h0, hf]
 show (if (changeS f ((fnd l p.Other).getD nilF) p).2 = 0 then _ else _ : List aB × Int) = _
 rw [h, if_neg he]
 show ([], (changeS f ((fnd l p.Other).getD nilF) p).2) = _
 rw [h]
def keepR (p : TPlan) (f : aB) : Bool := (!decide (f.Name = p.Name)) && (!((decide (p.Kind = 6)) && (decide (f.Name = p.Other))))
theorem keep_rest {l : List aB} {p : TPlan} (h : fitsS l p = 0) : l.filter (keepR p) = rest l p := by
 obtain ⟨f, ft⟩ := fit_of h
 unfold rest
 refine List.filter_congr fun x hx => ?_
 unfold keepR tchB
 by_cases h1 : x.Name = p.Name
 ·rw [decide_eq_true h1]; rfl
 rw [decide_eq_false h1]
 by_cases k6 : p.Kind = 6
 ·have q := NameOk_ne (kind6 ft.pl k6).1
  rw [decide_eq_true k6, decide_eq_false q]; simp
 ·rw [decide_eq_false k6]
  by_cases k5 : p.Kind = 5
  ·rw [decide_eq_false (fnd_none (ft.five k5).1 x hx)]; simp
  ·rw [kind_no ft.pl k5 k6]; simp
def maskN : List Bool → Nat
 | [] => 0
 | b :: t => (if b = true then 1 else 0) + 2 * maskN t
theorem maskN_bit : ∀ (l : List Bool) (i : Nat), (maskN l).testBit i = l.getD i false
 | [], i => by simp [maskN]
 | b :: t, 0 => by
  simp only [maskN, Nat.testBit_zero, List.getD_cons_zero]
  cases b <;> simp <;> omega
 | b :: t, i + 1 => by
  rw [Nat.testBit_succ, List.getD_cons_succ, ← maskN_bit t i]
  congr 1
  simp only [maskN]
  cases b <;> simp <;> omega
theorem maskN_lt : ∀ l : List Bool, maskN l < 2 ^ l.length
 | [] => by simp [maskN]
 | b :: t => by
  have := maskN_lt t
  simp only [maskN, List.length_cons, Nat.pow_succ]
  cases b <;> simp <;> omega
theorem maskN_set {l : List Bool} {k : Nat} (h : k < l.length) : maskN (l.set k true) = maskN l ||| 2 ^ k := by
 refine Nat.eq_of_testBit_eq fun i => ?_
 rw [Nat.testBit_or, maskN_bit, maskN_bit, Nat.testBit_two_pow, List.getD_eq_getElem?_getD, List.getD_eq_getElem?_getD, List.getElem?_set]
 by_cases e : k = i
 ·subst e; simp [h]
 ·simp [e]
theorem maskN_all (l : List Bool) : maskN l = 2 ^ l.length - 1 ↔ l.all id = true := by
 constructor
 ·intro h
  rw [List.all_eq_true]
  intro x hx
  obtain ⟨i, hi, rfl⟩ := List.getElem_of_mem hx
  have := maskN_bit l i
  rw [h, Nat.testBit_two_pow_sub_one] at this
  simp [List.getD, hi] at this
  simpa using this
 ·intro h
  refine Nat.eq_of_testBit_eq fun i => ?_
  rw [maskN_bit, Nat.testBit_two_pow_sub_one]
  by_cases hi : i < l.length
  ·have := List.all_eq_true.1 h l[i] (List.getElem_mem hi)
   simp [List.getD, hi]
   simpa using this
  ·simp [List.getD, hi, Nat.le_of_not_lt hi]
theorem iOr_nat {a b : Nat} (ha : a < 2 ^ 63) (hb : b < 2 ^ 63) : iOr .i64 a b = ((a ||| b : Nat) : Int) := by
 have hor := Nat.or_lt_two_pow ha hb
 unfold iOr
 have e1 : (BitVec.ofInt 64 (a : Int)).toNat = a := by
  rw [BitVec.toNat_ofInt]
  have : ((2 ^ 64 : Nat) : Int) = 18446744073709551616 := by decide
  omega
 have e2 : (BitVec.ofInt 64 (b : Int)).toNat = b := by
  rw [BitVec.toNat_ofInt]
  have : ((2 ^ 64 : Nat) : Int) = 18446744073709551616 := by decide
  omega
 show wr .i64 ((BitVec.ofInt 64 (a : Int) ||| BitVec.ofInt 64 (b : Int)).toNat : Int) = _
 rw [BitVec.toNat_or, e1, e2]
 exact wr_id (by omega)
theorem iShl_nat : ∀ k, k < 17 → iShl .i64 1 ((k : Nat) : Int) = ((2 ^ k : Nat) : Int) := by decide
theorem allB_nat : ∀ n, n < 17 → allB ((n : Nat) : Int) = ((2 ^ n - 1 : Nat) : Int) := by decide
theorem set_mask {l : List Bool} {k : Nat} (h : k < l.length) (hl : l.length ≤ 16) : iOr .i64 ((maskN l : Nat) : Int) (iShl .i64 1 ((k : Nat) : Int)) = ((maskN (l.set k true) : Nat) : Int) := by
 have h1 := maskN_lt l
 have p1 : 2 ^ l.length ≤ 2 ^ 16 := Nat.pow_le_pow_right (by decide) hl
 have p2 : 2 ^ k ≤ 2 ^ 16 := Nat.pow_le_pow_right (by decide) (by omega)
 rw [iShl_nat k (by omega), iOr_nat (by omega) (by omega), maskN_set h]
theorem ref16_every_eq (l : List Bool) (hl : l.length ≤ 1000000) : ur16_every l = some (l.all id) := by
 unfold ur16_every
 rw [loop_all l.length (by omega) (fun i => l.getD i default = true) false () (fun i hi => ?_) (by simp [ur16_every_L1])]
 ·by_cases h : ∀ i, i < l.length → l.getD i default = true
  ·rw [if_pos h, obs, onS_l]
   refine congrArg some (Eq.symm ?_)
   rw [List.all_eq_true]
   intro x hx
   obtain ⟨i, hi, rfl⟩ := List.getElem_of_mem hx
   have := h i hi
   simpa [List.getD, hi] using this
  ·rw [if_neg h, obs, onS_r]
   refine congrArg some (Eq.symm ?_)
   rw [Bool.eq_false_iff]
   intro k
   refine h fun i hi => ?_
   have := List.all_eq_true.1 k l[i] (List.getElem_mem hi)
   simpa [List.getD, hi] using this
 ·simp only [ur16_every_L1]
  rw [if_pos (by simp; omega), six_of hi, obs]
  simp only [wr_succ (show i < 1000000000000000 by omega)]
  cases l.getD i default <;> simp
theorem ref16_set_eq (l : List Bool) (k : Nat) (hk : k < l.length) (hl : l.length ≤ 1000000) : ur16_set l ((k : Nat) : Int) = some (l.set k true) := by
 unfold ur16_set
 rw [app_of (by simp; omega), obs, List.nil_append, six_of hk, obs]; rfl
theorem ref13_put_eq_r (l : List aB) (f : aB) (hl : Small l) : ur13_put l f = some (insF f l) := by
 have hn := hl.1
 unfold ur13_put
 have hc := cutF_le f l
 rw [loopM_eq (body := ur13_put_L1 l f) (q := ((cutF f l : Nat) : Int)) (fun i s => s = (i : Int)) (cutF f l) (by omega) ?_ ?_ (by rfl), obs]
 ·have s1 : ssl l 0 ((cutF f l : Nat) : Int) = some (l.take (cutF f l)) := by unfold ssl; rw [if_pos (by omega)]; simp
  have s2 : ssl l ((cutF f l : Nat) : Int) (l.length : Int) = some (l.drop (cutF f l)) := by unfold ssl; rw [if_pos (by omega)]; simp
  rw [s1, obs, app_of (by simp only [List.length_nil, List.length_take]; omega), obs, app_of (by simp only [List.length_nil, List.length_take, List.nil_append, List.length_cons]; omega), obs, s2, obs,
   app_of (by simp only [List.length_nil, List.length_take, List.nil_append, List.length_cons, List.length_append, List.length_drop]; omega), obs, cutF_ins f l]
  simp
 ·rintro i s hi rfl
  refine .inl ⟨_, ?_, rfl⟩
  have hs := hl.at i
  have hb := cutF_bef f l i hi
  simp only [ur13_put_L1]
  rw [gd_t (by simp; omega), six_of (by omega), obs, gd_t (by simp; omega), before_eq _ _ (by omega), obs]
  rw [show l.getD i default = l[i]'(by omega) by simp [List.getD, show i < l.length by omega]]
  rw [if_pos (by rw [show bLs (l[i]'(by omega)).Name f.Name = true from hb]; simp; omega), wr_succ (by omega)]
 ·rintro s rfl
  simp only [ur13_put_L1]
  by_cases h : cutF f l < l.length
  ·have hs := hl.at (cutF f l)
   have hb := cutF_at f l h
   rw [gd_t (by simp; omega), six_of h, obs, gd_t (by simp; omega), before_eq _ _ (by omega), obs]
   rw [show l.getD (cutF f l) default = l[cutF f l] by simp [List.getD, h]]
   rw [if_neg (by rw [show bLs (l[cutF f l]).Name f.Name = false by simpa [RN] using hb]; simp)]
  ·rw [gd_f (by simp; omega), obs, gd_f (by simp; omega), obs, if_neg (by simp <;> omega)]
theorem ref_rest_loop_r (l : List aB) (p : TPlan) (hl : Small l) : loopM (ur13_Apply_L1 l p) fuel (([] : List aB), 0) = some (l.filter (keepR p)) := by
 have hn := hl.1
 refine loopM_eq (fun i s => s = ((l.take i).filter (keepR p), (i : Int))) l.length (by omega) _ ?_ ?_ (by simp)
 ·rintro i s hi rfl
  refine .inl ⟨_, ?_, rfl⟩
  have hlen : ((l.take i).filter (keepR p)).length ≤ 1000 := by have := List.length_filter_le (keepR p) (l.take i); simp only [List.length_take] at this; omega
  simp only [ur13_Apply_L1]
  rw [if_pos (by simp; omega), six_of hi, obs]
  have ht : (l.take (i + 1)).filter (keepR p) = (l.take i).filter (keepR p) ++ (if keepR p (l.getD i default) = true then [l.getD i default] else []) := by
   rw [List.take_succ_eq_append_getElem hi, List.filter_append, List.filter_cons, show l[i] = l.getD i default by simp [List.getD, hi]]; rfl
  rw [ht]
  have w := wr_succ (show i < 1000000000000000 by omega)
  by_cases h1 : (l.getD i default).Name = p.Name
  ·have hk : keepR p (l.getD i default) = false := by unfold keepR; rw [decide_eq_true h1]; rfl
   rw [gd_f (by rw [decide_eq_true h1]; simp), obs, letM_eq, if_neg (by rw [decide_eq_true h1]; simp), if_neg (by rw [hk]; simp), List.append_nil, w]
  ·by_cases h6 : p.Kind = 6
   ·rw [gd_t (by rw [decide_eq_false h1, decide_eq_true h6]; simp), obs, letM_eq]
    by_cases h2 : keepR p (l.getD i default) = true
    ·rw [if_pos (show ((!decide ((l.getD i default).Name = p.Name)) && (!((decide (p.Kind = 6)) && (decide ((l.getD i default).Name = p.Other))))) = true from h2), obs, letM_eq, if_pos h2, app_of (by simp only [List.length_cons, List.length_nil]; omega), obs, w]
    ·rw [if_neg (show ¬ ((!decide ((l.getD i default).Name = p.Name)) && (!((decide (p.Kind = 6)) && (decide ((l.getD i default).Name = p.Other))))) = true from h2), if_neg h2, List.append_nil, w]
   ·have hk : keepR p (l.getD i default) = true := by unfold keepR; rw [decide_eq_false h1, decide_eq_false h6]; rfl
    rw [gd_f (by rw [decide_eq_false h6]; simp), obs, letM_eq, if_pos (by rw [decide_eq_false h1, decide_eq_false h6]; rfl), obs, letM_eq, if_pos hk, app_of (by simp only [List.length_cons, List.length_nil]; omega), obs, w]
 ·rintro s rfl
  simp only [ur13_Apply_L1]
  rw [if_neg (by simp), List.take_length]
theorem ref13_Apply_eq_r (l : List aB) (p : TPlan) (hl : Small l) (h1 : p.Name.size ≤ 1000000) (h2 : p.Other.size ≤ 1000000) : ur13_Apply l p = some (applyS l p) := by
 have hn := hl.1
 unfold ur13_Apply
 rw [ref13_Fits_eq l p hl h1 h2, obs]
 by_cases h0 : fitsS l p = 0
 rotate_left
 ·rw [if_pos (by simp [h0])]; unfold applyS; rw [if_neg h0]
 rw [if_neg (by simp [h0]), ref13_at_eq l _ (by omega), obs]
 obtain ⟨f, ft⟩ := fit_of h0
 have hf := ft.found
 obtain ⟨i, hi, hfi⟩ := Option.map_eq_some_iff.1 ((fnd_idx l p.Name).symm.trans hf)
 have hok := ft.fs.1 f (fnd_mem hf)
 have hnm := fnd_name hf
 have hfn : f.Name = p.Name := hnm
 rw [hi]
 simp only [ixI]
 rw [six_of (fidx_lt hi), obs, letM_eq, hfi, ref07_View_eq, obs]
 by_cases v0 : (viewS f).2 = 0
 rotate_left
 ·rw [if_pos (by simp [v0]), apply_none h0 hf (show changeS f _ p = ([], 2) by unfold changeS; rw [if_pos (.inl v0)]) (by decide)]
 rw [if_neg (by simp [v0]), ref_rest_loop_r l p hl, obs, keep_rest h0, letM_eq]
 have hrs : Small (rest l p) := hl.filter _
 have hrl : (rest l p).length ≤ 4 := by have := List.length_filter_le (fun f : aB => !tchB p f.Name) l; have := ft.fs.2.2; unfold rest; omega
 -- one that is made
 have one : ∀ (e v lo hi : Int), changeS f ((fnd l p.Other).getD nilF) p = oneS v lo hi f e → (Option.bind (some (madeS p.Name e v lo hi)) fun r18 => if (!decide (r18.2 = 0)) = true then some (([] : List aB), r18.2) else Option.bind (ur13_put (rest l p) r18.1) fun r19 => some (r19, 0)) = some (applyS l p) := fun e v lo hi hc => by
  unfold oneS at hc
  rw [hfn] at hc
  rw [obs]
  by_cases c : (madeS p.Name e v lo hi).2 = 0
  ·rw [c] at hc
   obtain ⟨a, b⟩ := apply_one h0 hf hc
   rw [if_neg (by simp [c]), ref13_put_eq_r _ _ hrs, obs, a]
   exact congrArg some (Prod.ext rfl b.symm)
  ·rw [if_pos (by simp [c]), apply_none h0 hf hc c]
 have nv : ∀ q : Prop, (¬ q) → ¬ ((viewS f).2 ≠ 0 ∨ q) := fun q nq h => h.elim (fun k => k v0) nq
 simp only [ref13_count_eq, ref_Is_eq]
 by_cases c1 : p.Kind = 1
 ·rw [if_pos (by simp [c1])]
  refine one _ _ _ _ ?_
  unfold changeS
  rw [if_neg (nv _ (by omega)), if_pos c1]
 rw [if_neg (by simp [c1])]
 by_cases c2 : p.Kind = 2
 ·rw [if_pos (by simp [c2])]
  refine one _ _ _ _ ?_
  unfold changeS
  rw [if_neg (nv _ (by omega)), if_neg c1, if_pos c2]
 rw [if_neg (by simp [c2])]
 have hA := ft.pl.2.1
 by_cases c3 : p.Kind = 3
 ·rw [if_pos (by simp [c3])]
  have hc : changeS f ((fnd l p.Other).getD nilF) p = if IsN (viewS f).1 ∧ IsN (wr .i64 (f.Epoch + 1)) then ([⟨p.Name, 2, wr .i64 (f.Epoch + 1), (default : aJ), ⟨0, 0, 0, (viewS f).1⟩, ([] : List THold)⟩], 0) else ([], 2) := by
   unfold changeS
   rw [if_neg (nv _ (by omega)), if_neg c1, if_neg c2, if_neg (by omega), if_neg (by omega), if_neg (by omega), hfn]
  simp only [letM_eq, obs, gd_nb]
  by_cases d : IsN (viewS f).1 ∧ IsN (wr .i64 (f.Epoch + 1))
  ·rw [if_pos d] at hc
   obtain ⟨a, b⟩ := apply_one h0 hf hc
   rw [if_neg (by simp [d.1, d.2]), if_neg (by simp [v0]), ref13_put_eq_r _ _ hrs, obs, a]
   exact congrArg some (Prod.ext rfl b.symm)
  ·rw [if_neg d] at hc
   rw [if_pos, if_pos (by decide), apply_none h0 hf hc (by decide)]
   by_cases e : IsN (wr .i64 (f.Epoch + 1))
   ·have : ¬ IsN (viewS f).1 := fun k => d ⟨k, e⟩
    simp [e, this]
   ·simp [e]
 rw [if_neg (by simp [c3])]
 by_cases c4 : p.Kind = 4
 ·rw [if_pos (by simp [c4])]
  refine one _ _ _ _ ?_
  unfold changeS
  rw [if_neg (nv _ (by omega)), if_neg c1, if_neg c2, if_pos c4]
 rw [if_neg (by simp [c4])]
 by_cases c5 : p.Kind = 5
 ·rw [if_pos (by simp [c5])]
  have hk1 : f.Kind = 1 := by have := ft.kind; rw [if_neg c4] at this; exact this
  have hcok : COk f.Counter := by
   rcases hok.2.2 with q | q
   ·exact q.2.1
   ·omega
  have hv := view_isN hok v0
  have hov : max 0 (wr .i64 (wr .i64 ((viewS f).1 - f.Counter.High) + p.A)) = overS f p := by
   unfold overS
   have hh := hcok.2.2.1
   unfold IsN at hh hv hA
   rw [wr_id (n := (viewS f).1 - f.Counter.High) (by omega), wr_id (n := f.Counter.High - p.A) (by omega), wr_id (n := (viewS f).1 - f.Counter.High + p.A) (by omega), wr_id (n := (viewS f).1 - (f.Counter.High - p.A)) (by omega)]
   congr 1; omega
  rw [letM_eq, hov, obs]
  have hc : changeS f ((fnd l p.Other).getD nilF) p = if (madeS p.Other (wr .i64 (f.Epoch + 1)) (overS f p) 0 p.A).2 = 0 then
   ([(madeS p.Name (wr .i64 (f.Epoch + 1)) (wr .i64 ((viewS f).1 - overS f p)) f.Counter.Low (wr .i64 (f.Counter.High - p.A))).1, (madeS p.Other (wr .i64 (f.Epoch + 1)) (overS f p) 0 p.A).1],
    (madeS p.Name (wr .i64 (f.Epoch + 1)) (wr .i64 ((viewS f).1 - overS f p)) f.Counter.Low (wr .i64 (f.Counter.High - p.A))).2)
   else ([], (madeS p.Other (wr .i64 (f.Epoch + 1)) (overS f p) 0 p.A).2) := by
   unfold changeS
   rw [if_neg (nv _ (by omega)), if_neg c1, if_neg c2, if_neg c4, if_neg (by omega), if_pos c5, ← hfn]; rfl
  by_cases d : (madeS p.Other (wr .i64 (f.Epoch + 1)) (overS f p) 0 p.A).2 = 0
  rotate_left
  ·rw [if_neg d] at hc
   rw [if_pos (by simp [d]), apply_none h0 hf hc d]
  rw [if_pos d] at hc
  rw [if_neg (by simp [d]), ref13_put_eq _ _ hrs, obs, obs]
  by_cases e : (madeS p.Name (wr .i64 (f.Epoch + 1)) (wr .i64 ((viewS f).1 - overS f p)) f.Counter.Low (wr .i64 (f.Counter.High - p.A))).2 = 0
  ·rw [e] at hc
   obtain ⟨a, b⟩ := apply_two h0 hf hc
   have hs2 : Small (insF (madeS p.Other (wr .i64 (f.Epoch + 1)) (overS f p) 0 p.A).1 (rest l p)) := by
    have hp := insF_perm (madeS p.Other (wr .i64 (f.Epoch + 1)) (overS f p) 0 p.A).1 (rest l p)
    refine ⟨by rw [hp.length_eq, List.length_cons]; omega, fun x hx => ?_⟩
    rcases List.mem_cons.1 (hp.mem_iff.1 hx) with rfl | hx
    ·exact made_small _ _ _ _ _ h2
    ·exact hrs.2 x hx
   rw [if_neg (by simp [e]), ref13_put_eq_r _ _ hs2, obs, a]
   exact congrArg some (Prod.ext rfl b.symm)
  ·rw [if_pos (by simp [e]), apply_none h0 hf hc e]
 rw [if_neg (by simp [c5])]
 have c6 : p.Kind = 6 := by have := ft.pl.2.2.2; unfold kindOk at this; omega
 obtain ⟨g, hg, hperm⟩ := ft.two c6
 obtain ⟨j, hj, hgj⟩ := Option.map_eq_some_iff.1 ((fnd_idx l p.Other).symm.trans hg)
 rw [ref13_at_eq l _ (by omega), obs, hj]
 simp only [ixI]
 rw [six_of (fidx_lt hj), obs, letM_eq, hgj, ref07_View_eq, obs]
 have hgd : (fnd l p.Other).getD nilF = g := by rw [hg]; rfl
 by_cases w0 : (viewS g).2 = 0
 rotate_left
 ·rw [if_pos (by simp [w0]), apply_none h0 hf (show changeS f ((fnd l p.Other).getD nilF) p = ([], 2) by unfold changeS; rw [hgd, if_pos (.inr ⟨w0, c6⟩)]) (by decide)]
 rw [if_neg (by simp [w0])]
 refine one _ _ _ _ ?_
 unfold changeS
 rw [hgd, if_neg (nv _ (fun k => k.1 w0)), if_neg c1, if_neg c2, if_neg c4, if_pos c6]
/-- A barrier, as the plain answer has it. -/
def toR (b : YbrB) (A T : List Bool) : Yr16B := ⟨b.N, b.State, b.Number, b.Epoch, b.Plan, b.Due, A, T, b.Joined, b.Made⟩
structure Inv (n i : Nat) (b : YbrB) (A T : List Bool) : Prop where
 n2 : 2 ≤ n
 n16 : n ≤ 16
 N : b.N = (n : Int)
 st : b.State = 0 ∨ b.State = 1 ∨ b.State = 2 ∨ b.State = 3
 num0 : 0 ≤ b.Number
 num : b.Number ≤ (i : Int)
 la : A.length = n
 lt : T.length = n
 ac : b.Acked = ((maskN A : Nat) : Int)
 to : b.Told = ((maskN T : Nat) : Int)
 sJ : Small b.Joined
 jl : b.Joined.length ≤ 900
 sM : Small b.Made
 kind : inI64 b.Plan.Kind = true
 p1 : b.Plan.Name.size ≤ 1000000
 p2 : b.Plan.Other.size ≤ 1000000
 yes : b.State = 2 → b.Acked = allB (n : Int)
 fr : b.State = 1 → b.Told = 1
theorem Inv.all {n i : Nat} {b : YbrB} {A T : List Bool} (h : Inv n i b A T) : b.Told = allB b.N ↔ T.all id = true := by
 rw [h.N, h.to, allB_nat n (by have := h.n16; omega), ← maskN_all, h.lt]; omega
theorem Inv.allA {n i : Nat} {b : YbrB} {A T : List Bool} (h : Inv n i b A T) {X : List Bool} (hx : X.length = n) : ((maskN X : Nat) : Int) = allB b.N ↔ X.all id = true := by
 rw [h.N, allB_nat n (by have := h.n16; omega), ← maskN_all, hx]; omega
theorem ref16_Pending_eq {n i : Nat} {b : YbrB} {A T : List Bool} (h : Inv n i b A T) : ur16_Pending (toR b A T) = some (decide (pend b)) := by
 unfold ur16_Pending
 have hl := h.lt
 have h16 := h.n16
 rw [show (toR b A T).Told = T from rfl, ref16_every_eq T (by omega), show (toR b A T).State = b.State from rfl]
 have ha := h.all
 unfold pend
 rcases h.st with c | c | c | c
 ·simp [c, gd, letM]
 ·simp [c, gd, letM]
 ·cases ht : T.all id with
  | true => simp [c, gd, letM, ha.2 ht]
  | false =>
   have hne : b.Told ≠ allB b.N := fun k => by rw [ha.1 k] at ht; cases ht
   simp [c, gd, letM, hne]
 ·cases ht : T.all id with
  | true => simp [c, gd, letM, ha.2 ht]
  | false =>
   have hne : b.Told ≠ allB b.N := fun k => by rw [ha.1 k] at ht; cases ht
   simp [c, gd, letM, hne]
theorem ref16_epoch (l : List aB) (hl : l.length ≤ 1000000) (h : ∀ f ∈ l, FOk f) : loopM (ur16_Start_L1 l) fuel (0, 1) = some (maxE l) := by
 have := (loop_fold (body := ur16_Start_L1 l) l.length (by omega) (fun s i => max s ((l.getD i default).Epoch + 1)) (fun s => s) (fun _ _ => True) (s0 := 1) trivial (fun i s hi _ => ⟨?_, trivial⟩) (fun s _ => ?_)).1
 ·rw [this, foldl_range_list l default (fun s f => max s (f.Epoch + 1)) 1]; rfl
 ·have hf := (h (l.getD i default) (by rw [show l.getD i default = l[i] by simp [List.getD, hi]]; exact List.getElem_mem hi)).2.1
  simp only [ur16_Start_L1]
  rw [if_pos (by simp; omega), six_of hi, obs, letM_eq]
  simp only [wr_succ (show i < 1000000000000000 by omega)]
  rw [wr_id (n := (l.getD i default).Epoch + 1) (by unfold cnt IsN at hf; omega)]
 ·simp only [ur16_Start_L1]
  rw [if_neg (by simp)]
theorem ref16_about (l : List aB) (p : TPlan) (hl : Small l) (hn : ∀ f ∈ l, f.Name ≠ noS) : loopM (ur16_Start_L2 l p) fuel (0, ([] : List aB)) = some (l.filter (abt p)) := by
 have hn' := hl.1
 refine loopM_eq (fun i s => s = ((i : Int), (l.take i).filter (abt p))) l.length (by omega) _ ?_ ?_ (by simp)
 ·rintro i s hi rfl
  refine .inl ⟨_, ?_, rfl⟩
  have hlen : ((l.take i).filter (abt p)).length ≤ 1000 := by have := List.length_filter_le (abt p) (l.take i); simp only [List.length_take] at this; omega
  have hf := hn (l.getD i default) (by rw [show l.getD i default = l[i] by simp [List.getD, hi]]; exact List.getElem_mem hi)
  have ht : (l.take (i + 1)).filter (abt p) = (l.take i).filter (abt p) ++ (if abt p (l.getD i default) = true then [l.getD i default] else []) := by
   rw [List.take_succ_eq_append_getElem hi, List.filter_append, List.filter_cons, show l[i] = l.getD i default by simp [List.getD, hi]]; rfl
  have w := wr_succ (show i < 1000000000000000 by omega)
  have hA : abt p (l.getD i default) = ((decide ((l.getD i default).Name = p.Name)) || (decide ((l.getD i default).Name = p.Other))) := by
   unfold abt tchB
   by_cases c : p.Other = noS
   ·have : (l.getD i default).Name ≠ p.Other := by rw [c]; exact hf
    rw [decide_eq_true c, decide_eq_false this]; simp
   ·rw [decide_eq_false c]; simp
  simp only [ur16_Start_L2]
  rw [if_pos (by simp; omega), six_of hi, obs, ht]
  by_cases h1 : (l.getD i default).Name = p.Name
  ·have hk : abt p (l.getD i default) = true := by rw [hA, decide_eq_true h1]; rfl
   rw [gd_f (by rw [decide_eq_true h1]; simp), obs, letM_eq, if_pos (by rw [decide_eq_true h1]; rfl), obs, letM_eq, app_of (by simp only [List.length_cons, List.length_nil]; omega), obs, if_pos hk, w]
  ·rw [gd_t (by rw [decide_eq_false h1]), obs, letM_eq]
   by_cases h2 : abt p (l.getD i default) = true
   ·rw [if_pos (hA ▸ h2), obs, letM_eq, app_of (by simp only [List.length_cons, List.length_nil]; omega), obs, if_pos h2, w]
   ·rw [if_neg (hA ▸ h2), if_neg h2, List.append_nil, w]
 ·rintro s rfl
  simp only [ur16_Start_L2]
  rw [if_neg (by simp), List.take_length]
def firstT (n : Nat) : List Bool := (List.replicate n false).set 0 true
theorem ref16_Start_eq {n i : Nat} {b : YbrB} {A T : List Bool} (h : Inv n i b A T) (l : List aB) (p : TPlan) (due : Int) (hl : Small l) (h1 : p.Name.size ≤ 1000000) (h2 : p.Other.size ≤ 1000000) :
  ur16_Start (toR b A T) l p due = some (if (startB b l p due).2 = 0 then (toR (startB b l p due).1 (firstT n) (firstT n), 0) else (toR b A T, (startB b l p due).2)) := by
 have hn := hl.1
 have n2 := h.n2
 have n16 := h.n16
 unfold ur16_Start startB
 rw [ref16_Pending_eq h, obs]
 by_cases c1 : pend b
 ·rw [if_pos (by simp [c1]), if_pos c1]; rfl
 rw [if_neg (by simp [c1]), if_neg c1, ref13_Fits_eq l p hl h1 h2, obs]
 by_cases c2 : fitsS l p = 0
 rotate_left
 ·rw [if_pos (by simp [c2]), if_neg c2, if_neg c2]
 rw [if_neg (by simp [c2]), if_pos c2, ref16_epoch l (by omega) (fits_found c2).1.1, obs]
 by_cases c3 : 1099511627776 < maxE l
 ·rw [if_pos (by simpa using c3), if_pos c3]; rfl
 have hN : ur16_New_own (toR b A T).N = some ⟨(n : Int), 0, 0, 0, default, 0, List.replicate n false, List.replicate n false, [], []⟩ := by
  rw [show (toR b A T).N = (n : Int) from h.N]
  unfold ur16_New_own
  rw [show mkS 1 (n : Int) = some () by unfold mkS; rw [if_pos (by omega)]]
  simp [letM]
 rw [if_neg (by simpa using c3), if_neg c3, hN, obs]
 simp only
 rw [show six (List.replicate n false) 0 = some 0 from six_of (xs := List.replicate n false) (i := 0) (by simp; omega), obs, letM_eq, obs, letM_eq,
  ref16_about l p hl (fun f hf => NameOk_ne ((fits_found c2).1.1 f hf).1), obs, if_pos trivial]
 unfold toR
 simp only [h.N]
 rfl
theorem ref16_ackloop (l : List aB) (hl : Small l) (r : Yr16B) (hJ : Small r.Joined) : loopM (ur16_Ack_L1 r l) fuel (0, ([] : List aB)) = some (if (ackS l r.Joined).2 = 0 then .inl (ackS l r.Joined).1 else .inr (r, (ackS l r.Joined).2)) := by
 have hn := hl.1
 have hjn := hJ.1
 have find : ∀ s6 : Int × List aB, ∀ k : Nat, s6.1 = (k : Int) → k < r.Joined.length → ∃ z w, loopM (ur16_Ack_L2 r l s6) fuel (wr .i64 ((l.length : Int) - 1), (-1)) = some (z, w, w, ixI (fidx l (r.Joined.getD k default).Name)) := by
  intro s6 k hk hk'
  have key : ∀ m, m ≤ l.length → ∀ fl, m < fl → ∃ z w, loopM (ur16_Ack_L2 r l s6) fl (((m : Int) - 1), ixI ((fidx (l.drop m) (r.Joined.getD k default).Name).map (· + m))) = some (z, w, w, ixI (fidx l (r.Joined.getD k default).Name)) := by
   intro m
   induction m with
   | zero =>
    intro _ fl hf
    obtain ⟨fl, rfl⟩ : ∃ x, fl = x + 1 := ⟨fl - 1, by omega⟩
    refine ⟨false, -1, ?_⟩
    refine loop_out ?_
    simp only [ur16_Ack_L2]
    rw [if_neg (by simp)]
    simp
   | succ m ih =>
    intro hm fl hf
    obtain ⟨fl, rfl⟩ : ∃ x, fl = x + 1 := ⟨fl - 1, by omega⟩
    obtain ⟨z, w, e⟩ := ih (by omega) fl (by omega)
    refine ⟨z, w, (loop_go ?_).trans e⟩
    simp only [ur16_Ack_L2]
    rw [show (((m + 1 : Nat) : Int) - 1) = (m : Int) by omega, if_pos (by simp), six_of (show m < l.length by omega), obs, hk, six_of hk', obs]
    have hd : l.drop m = l.getD m default :: l.drop (m + 1) := by
     rw [List.drop_eq_getElem_cons (show m < l.length by omega)]; simp [List.getD, show m < l.length by omega]
    have w1 : wr .i64 ((m : Int) - 1) = (m : Int) - 1 := wr_id (by omega)
    rw [hd, w1]
    unfold fidx
    rw [List.findIdx?_cons]
    by_cases c : (l.getD m default).Name = (r.Joined.getD k default).Name
    ·rw [if_pos (by rw [decide_eq_true c]), if_pos (by rw [decide_eq_true c])]
     simp [ixI]
    ·rw [if_neg (by rw [decide_eq_false c]; simp), if_neg (by rw [decide_eq_false c]; simp), Option.map_map]
     congr 4
     cases (l.drop (m + 1)).findIdx? (fun f => decide (f.Name = (r.Joined.getD k default).Name)) with
     | none => rfl
     | some q => simp [ixI]; omega
  have := key l.length (Nat.le_refl _) fuel (by have := fuel_big; omega)
  rw [List.drop_length] at this
  rw [wr_id (n := (l.length : Int) - 1) (by omega)]
  exact this
 generalize hj : r.Joined = J at hJ hjn find
 refine loopM_eq (fun i s => s.1 = (i : Int) ∧ ∃ dn : List aB, dn.length = i ∧ s.2 = dn ∧ ackS l J = (if (ackS l (J.drop i)).2 = 0 then (dn ++ (ackS l (J.drop i)).1, 0) else ([], (ackS l (J.drop i)).2))) J.length (by omega) _ ?_ ?_
  ⟨rfl, [], rfl, rfl, by
   rw [List.drop_zero]
   by_cases h : (ackS l J).2 = 0
   ·rw [if_pos h]; exact Prod.ext (by simp) h
   ·rw [if_neg h]
    exact Prod.ext (ackS_err h) rfl⟩
 ·rintro i ⟨s1, s2⟩ hi ⟨rfl, dn, hd, rfl, he⟩
  simp only at hd
  have hdr : J.drop i = J[i] :: J.drop (i + 1) := List.drop_eq_getElem_cons hi
  have hg : J.getD i default = J[i] := by simp [List.getD, hi]
  have hs1 := hJ.2 J[i] (List.getElem_mem hi)
  obtain ⟨z, w, ef⟩ := find ((i : Int), s2) i rfl hi
  simp only [ur16_Ack_L1]
  rw [if_pos (by rw [hj]; simp; omega), letM_eq, ef, obs]
  simp only [hj, hg]
  rw [hdr, ackS_cons, fnd_idx] at he
  cases hf : fidx l J[i].Name with
  | none =>
   rw [hf] at he
   simp only [Option.map_none] at he
   refine .inr ?_
   rw [if_pos (by simp [ixI]), he]; rfl
  | some k =>
   rw [hf] at he
   simp only [Option.map_some] at he
   have hk := fidx_lt hf
   have hs2 := hl.at k
   have hix : ixI (some k) = (k : Int) := rfl
   rw [hix, if_neg (by simp), six_of hi, obs, letM_eq, six_of hk, obs, letM_eq, hg, ref07_Join_eq _ _ (by omega) (by omega), obs]
   by_cases c : (joinF J[i] (l.getD k default)).2 = 0
   ·refine .inl ⟨_, by rw [if_neg (by simp [-List.getD_eq_getElem?_getD, c]), app_of (by simp only [List.length_cons, List.length_nil]; omega), obs], wr_succ (show i < 1000000000000000 by omega), s2 ++ [(joinF J[i] (l.getD k default)).1], by simp [hd], rfl, ?_⟩
    rw [if_pos c] at he
    rw [he]
    by_cases d : (ackS l (J.drop (i + 1))).2 = 0
    ·simp only [if_pos d]; simp
    ·simp only [if_neg d]
   ·refine .inr ?_
    rw [if_pos (by simp [-List.getD_eq_getElem?_getD, c])]
    rw [if_neg c] at he
    simp only [if_neg c] at he
    rw [he]
    simp only [if_neg c]
 ·rintro ⟨s1, s2⟩ ⟨rfl, dn, hd, rfl, he⟩
  simp only [ur16_Ack_L1]
  rw [if_neg (by rw [hj]; simp)]
  rw [List.drop_length] at he
  rw [he]
  simp [ackS]
theorem ref16_epochs (r : List aB × Int) (b : Yr16B) (h : r.1.length ≤ 1000) : loopM (ur16_Ack_L3 r b) fuel (0, ([] : List aB)) = some (r.1.map fun f => { f with Epoch := b.Epoch }) := by
 refine loopM_eq (fun i s => s = ((i : Int), (r.1.take i).map (fun f => { f with Epoch := b.Epoch }))) r.1.length (by omega) _ ?_ ?_ (by simp)
 ·rintro i s hi rfl
  refine .inl ⟨_, ?_, rfl⟩
  simp only [ur16_Ack_L3]
  rw [if_pos (by simp; omega), six_of hi, obs, letM_eq, letM_eq, app_of (by simp only [List.length_cons, List.length_nil, List.length_map, List.length_take]; omega), obs]
  simp only [wr_succ (show i < 1000000000000000 by omega)]
  congr 4
  rw [List.take_succ_eq_append_getElem hi, List.map_append, show r.1.getD i default = r.1[i] by simp [List.getD, hi]]; rfl
 ·rintro s rfl
  simp only [ur16_Ack_L3]
  rw [if_neg (by simp), List.take_length]
theorem copied_eq (b : YbrB) (h1 : Small b.Joined) (h2 : Small b.Made) : barrier_copied b = some b := by
 unfold barrier_copied
 rw [barrier_own_eq _ h1, obs, barrier_own_eq _ h2, obs]; rfl
def tickB (b : YbrB) (now : Int) : YbrB := if b.State = 1 ∧ b.Due < now then { b with State := 3 } else b
theorem barrier_Tick_eq (b : YbrB) (now : Int) (h1 : Small b.Joined) (h2 : Small b.Made) : barrier_Tick b now = some (tickB b now) := by
 unfold barrier_Tick tickB
 rw [copied_eq b h1 h2, obs]
 by_cases c : b.State = 1 ∧ b.Due < now
 ·rw [if_pos c, if_pos (by simp [c.1, c.2])]; rfl
 ·rw [if_neg c, if_neg (by simpa using c)]
theorem barrier_Abort_eq (b : YbrB) (h1 : Small b.Joined) (h2 : Small b.Made) : barrier_Abort b = some (if b.State = 1 then ({ b with State := 3 }, 0) else (zeroB, 12)) := by
 unfold barrier_Abort
 by_cases c : b.State = 1
 ·rw [if_pos c, if_neg (by simp [c]), copied_eq b h1 h2, obs]; rfl
 ·rw [if_neg c, if_pos (by simp [c])]; rfl
def heardB (b : YbrB) (k number : Int) : YbrB := if (b.State = 2 ∨ b.State = 3) ∧ number = b.Number ∧ 1 ≤ k ∧ k < b.N ∧ k < 16 then { b with Told := iOr .i64 b.Told (iShl .i64 1 k) } else b
theorem barrier_Heard_eq (b : YbrB) (k number : Int) (h1 : Small b.Joined) (h2 : Small b.Made) : barrier_Heard b k number = some (heardB b k number) := by
 unfold barrier_Heard heardB
 rw [copied_eq b h1 h2, obs, letM_eq, barrier_other_eq]
 by_cases c : (b.State = 2 ∨ b.State = 3) ∧ number = b.Number
 ·by_cases d : 1 ≤ k ∧ k < b.N ∧ k < 16
  ·rw [gd_t (by simp [c.1, c.2]), obs, if_pos (by simp [c.1, c.2, d]), if_pos ⟨c.1, c.2, d⟩, show sh0 k = some () by unfold sh0; rw [if_neg (by omega)], obs]; rfl
  ·rw [gd_t (by simp [c.1, c.2]), obs, if_neg (by simp only [decide_eq_false d]; simp), if_neg (fun k => d k.2.2)]
 ·have e : ((decide (b.State = 2) || decide (b.State = 3)) && decide (number = b.Number)) = false := by
   rw [Bool.eq_false_iff]; simpa using c
  rw [e, gd_f (by simp), obs, if_neg (by simp), if_neg (fun k => c ⟨k.1, k.2.1⟩)]
theorem ref16_Heard_eq {n i : Nat} {b : YbrB} {A T : List Bool} (h : Inv n i b A T) (k number : Int) :
  ur16_Heard (toR b A T) k number = some (if (b.State = 2 ∨ b.State = 3) ∧ number = b.Number ∧ 1 ≤ k ∧ k < b.N ∧ k < 16 then toR (heardB b k number) A (T.set k.toNat true) else toR b A T) := by
 unfold ur16_Heard
 have n16 := h.n16
 have hN := h.N
 have hl := h.lt
 have hs : ((decide (1 < (toR b A T).State)) && (decide (number = (toR b A T).Number)) && (decide (1 ≤ k))) = decide ((b.State = 2 ∨ b.State = 3) ∧ number = b.Number ∧ 1 ≤ k) := by
  rw [show (toR b A T).State = b.State from rfl, show (toR b A T).Number = b.Number from rfl, Bool.eq_iff_iff]
  have := h.st
  simp only [Bool.and_eq_true, decide_eq_true_eq, and_assoc]
  refine and_congr_left fun _ => ?_
  omega
 rw [letM_eq, hs, show (toR b A T).N = b.N from rfl]
 by_cases c : (b.State = 2 ∨ b.State = 3) ∧ number = b.Number ∧ 1 ≤ k ∧ k < b.N ∧ k < 16
 ·obtain ⟨m, rfl⟩ : ∃ m : Nat, k = (m : Int) := ⟨k.toNat, by omega⟩
  have hm : m < T.length := by omega
  rw [if_pos c, if_pos (by rw [decide_eq_true (show _ from ⟨c.1, c.2.1, c.2.2.1⟩)]; simp; omega), show (toR b A T).Told = T from rfl, ref16_set_eq T m hm (by omega), obs, letM_eq]
  unfold heardB
  rw [if_pos c]; rfl
 ·rw [if_neg c, if_neg]
  intro k'
  simp only [Bool.and_eq_true, decide_eq_true_eq] at k'
  exact c ⟨k'.1.1, k'.1.2.1, k'.1.2.2, k'.2, by omega⟩
theorem ref16_Ack_eq {n i : Nat} {b : YbrB} {A T : List Bool} (h : Inv n i b A T) (k number : Int) (l : List aB) (hl : Small l) :
  ur16_Ack (toR b A T) k number l = some (if (ackB b k number l).2 = 0 then (toR (ackB b k number l).1 (A.set k.toNat true) T, 0) else (toR b A T, (ackB b k number l).2)) := by
 have n16 := h.n16
 have hN := h.N
 have hla := h.la
 unfold ur16_Ack ackB
 rw [show (toR b A T).N = b.N from rfl, show (toR b A T).State = b.State from rfl, show (toR b A T).Number = b.Number from rfl]
 by_cases c1 : 1 ≤ k ∧ k < b.N ∧ k < 16
 rotate_left
 ·rw [if_neg c1, if_pos (by simp; omega)]; rfl
 rw [if_pos c1, if_neg (by simp; omega)]
 by_cases c2 : b.State = 1 ∧ number = b.Number
 rotate_left
 ·rw [if_neg c2, if_pos]
  ·rfl
  ·simp only [Bool.or_eq_true, Bool.not_eq_true', decide_eq_false_iff_not]
   exact Classical.byContradiction fun q => c2 (by simp only [not_or, Classical.not_not] at q; exact q)
 rw [if_pos c2, if_neg (by simp [c2.1, c2.2]), ref16_ackloop l hl (toR b A T) h.sJ, obs, show (toR b A T).Joined = b.Joined from rfl]
 by_cases c3 : (ackS l b.Joined).2 = 0
 rotate_left
 ·rw [if_neg c3, if_neg c3, onS_r, if_neg c3]
 rw [if_pos c3, if_pos c3, onS_l]
 obtain ⟨m, hm⟩ : ∃ m : Nat, k = (m : Int) := ⟨k.toNat, by omega⟩
 subst hm
 have hmA : m < A.length := by omega
 have hset := set_mask hmA (by omega)
 rw [← h.ac] at hset
 have hlen : (A.set m true).length = n := by simp [hla]
 have hall := h.allA hlen
 rw [letM_eq, show ({ toR b A T with Joined := (ackS l b.Joined).1 } : Yr16B).Acked = A from rfl, ref16_set_eq A m hmA (by omega), obs, letM_eq]
 simp only [Int.toNat_natCast]
 rw [ref16_every_eq (A.set m true) (by omega), obs]
 have hs := ackS_small (l := l) h.sJ
 by_cases c4 : iOr .i64 b.Acked (iShl .i64 1 (m : Int)) = allB b.N
 rotate_left
 ·rw [if_neg c4, if_neg (fun q => c4 (by rw [hset]; exact hall.2 q)), if_pos rfl]; rfl
 rw [if_pos c4, if_pos (hall.1 (by rw [← hset]; exact c4)), show (toR b A T).Plan = b.Plan from rfl, ref13_Apply_eq_r _ b.Plan hs h.p1 h.p2, obs, letM_eq]
 have hsl : (ackS l b.Joined).1.length ≤ 900 := by
  have e := congrArg List.length (ackS_names c3)
  have := h.jl
  simp only [List.length_map] at e; omega
 have hsm := apply_small (ackS l b.Joined).1 b.Plan hs hsl h.p2
 by_cases c5 : (applyS (ackS l b.Joined).1 b.Plan).2 = 0
 ·rw [if_pos (by simp [c5]), if_pos c5, letM_eq, ref16_epochs _ _ hsm.1, obs, letM_eq, if_pos rfl]; rfl
 ·rw [if_neg (by simp [c5]), if_neg c5, if_pos rfl]; rfl
theorem barrier_Ack_inv {n i : Nat} {b : YbrB} {A T : List Bool} (h : Inv n i b A T) (k number : Int) (l : List aB) (hl : Small l) : barrier_Ack b k number l = some (ackB b k number l) := by
 refine barrier_Ack_eq b k number l hl h.sJ h.jl h.sM h.kind h.p1 h.p2 ?_
 have hlen : (ackS l b.Joined).1.length ≤ 900 := by
  by_cases c : (ackS l b.Joined).2 = 0
  ·have e := congrArg List.length (ackS_names c)
   have := h.jl
   simp only [List.length_map] at e; omega
  ·rw [ackS_err c]; simp
 exact (apply_small _ _ (ackS_small h.sJ) hlen h.p2).1
/-- What a step of a barrier may do. -/
structure Move (n : Nat) (verb : Int) (b c : YbrB) : Prop where
 stay : (b.State = 2 ∨ b.State = 3) → c.State ≠ b.State → verb = 0 ∧ b.Told = allB (n : Int) ∧ c.State = 1
 num0 : b.Number ≤ c.Number
 num1 : c.Number ≤ b.Number + 1
theorem Move.same (n : Nat) (verb : Int) (b c : YbrB) (h1 : c.State = b.State) (h2 : c.Number = b.Number) : Move n verb b c := ⟨fun _ h => (h h1).elim, by omega, by omega⟩
theorem Inv.up {n i : Nat} {b : YbrB} {A T : List Bool} (h : Inv n i b A T) : Inv n (i + 1) b A T := { h with num := by have := h.num; omega }
theorem firstT_mask (n : Nat) (h : 2 ≤ n) (h2 : n ≤ 16) : maskN (firstT n) = 1 ∧ (firstT n).length = n := by
 have : ∀ n, n < 17 → 2 ≤ n → maskN (firstT n) = 1 ∧ (firstT n).length = n := by decide
 exact this n (by omega) h
theorem inv_start {n i : Nat} {b : YbrB} {A T : List Bool} (h : Inv n i b A T) (hi : i ≤ 1000) (l : List aB) (p : TPlan) (due : Int) (hl : Small l) (h8 : l.length ≤ 8) (hk : inI64 p.Kind = true) (h1 : p.Name.size ≤ 1000000) (h2 : p.Other.size ≤ 1000000) (e : (startB b l p due).2 = 0) :
  Inv n (i + 1) (startB b l p due).1 (firstT n) (firstT n) ∧ Move n 0 b (startB b l p due).1 := by
 unfold startB at e ⊢
 by_cases c1 : pend b
 ·rw [if_pos c1] at e; cases e
 rw [if_neg c1] at e ⊢
 by_cases c2 : fitsS l p = 0
 rotate_left
 ·rw [if_neg c2] at e; exact (c2 e).elim
 rw [if_pos c2] at e ⊢
 by_cases c3 : 1099511627776 < maxE l
 ·rw [if_pos c3] at e; cases e
 rw [if_neg c3]
 have hn0 := h.num0
 have hn1 := h.num
 obtain ⟨f1, f2⟩ := firstT_mask n h.n2 h.n16
 have w : wr .i64 (b.Number + 1) = b.Number + 1 := wr_id (by omega)
 refine ⟨⟨h.n2, h.n16, h.N, .inr (.inl rfl), by show 0 ≤ wr .i64 (b.Number + 1); omega, by show wr .i64 (b.Number + 1) ≤ _; omega, f2, f2, by rw [f1]; rfl, by rw [f1]; rfl, hl.filter _, ?_, Small.nil, hk, h1, h2, fun q => (by cases q), fun _ => rfl⟩, fun q1 q2 => ⟨rfl, ?_, rfl⟩, by show b.Number ≤ wr .i64 (b.Number + 1); omega, by show wr .i64 (b.Number + 1) ≤ _; omega⟩
 ·have := List.length_filter_le (abt p) l
  show (l.filter (abt p)).length ≤ 900
  omega
 ·rw [← h.N]
  exact Classical.byContradiction fun k => c1 (.inr ⟨q1, k⟩)
theorem inv_ack {n i : Nat} {b : YbrB} {A T : List Bool} (h : Inv n i b A T) (k number : Int) (l : List aB) (e : (ackB b k number l).2 = 0) (verb : Int) :
  Inv n (i + 1) (ackB b k number l).1 (A.set k.toNat true) T ∧ Move n verb b (ackB b k number l).1 := by
 have n16 := h.n16
 have hN := h.N
 have hla := h.la
 unfold ackB at e ⊢
 by_cases c1 : 1 ≤ k ∧ k < b.N ∧ k < 16
 rotate_left
 ·rw [if_neg c1] at e; cases e
 rw [if_pos c1] at e ⊢
 by_cases c2 : b.State = 1 ∧ number = b.Number
 rotate_left
 ·rw [if_neg c2] at e; cases e
 rw [if_pos c2] at e ⊢
 by_cases c3 : (ackS l b.Joined).2 = 0
 rotate_left
 ·rw [if_neg c3] at e; exact (c3 e).elim
 rw [if_pos c3]
 obtain ⟨m, hm⟩ : ∃ m : Nat, k = (m : Int) := ⟨k.toNat, by omega⟩
 subst hm
 have hmA : m < A.length := by omega
 have hset := set_mask hmA (by omega)
 rw [← h.ac] at hset
 have hsl : (ackS l b.Joined).1.length ≤ 900 := by
  have e := congrArg List.length (ackS_names c3)
  have := h.jl
  simp only [List.length_map] at e; omega
 have hs := ackS_small (l := l) h.sJ
 have hsm := apply_small (ackS l b.Joined).1 b.Plan hs hsl h.p2
 have hnum := h.num
 have nd : ∀ c : YbrB, c.Number = b.Number → Move n verb b c := fun c hc => ⟨fun q _ => by have := c2.1; omega, by omega, by omega⟩
 simp only [Int.toNat_natCast]
 by_cases c4 : iOr .i64 b.Acked (iShl .i64 1 (m : Int)) = allB b.N
 rotate_left
 ·rw [if_neg c4]
  exact ⟨⟨h.n2, h.n16, h.N, .inr (.inl c2.1), h.num0, by show b.Number ≤ _; omega, by simp [hla], h.lt, hset, h.to, hs, hsl, h.sM, h.kind, h.p1, h.p2, fun q => (by have : b.State = 2 := q; have := c2.1; omega), h.fr⟩, nd _ rfl⟩
 rw [if_pos c4]
 by_cases c5 : (applyS (ackS l b.Joined).1 b.Plan).2 = 0
 ·rw [if_pos c5]
  exact ⟨⟨h.n2, h.n16, h.N, .inr (.inr (.inl rfl)), h.num0, by show b.Number ≤ _; omega, by simp [hla], h.lt, hset, h.to, hs, hsl, made_map_small hsm _, h.kind, h.p1, h.p2, fun _ => by rw [← hN]; exact c4, fun q => (by cases q)⟩, nd _ rfl⟩
 ·rw [if_neg c5]
  exact ⟨⟨h.n2, h.n16, h.N, .inr (.inr (.inr rfl)), h.num0, by show b.Number ≤ _; omega, by simp [hla], h.lt, hset, h.to, hs, hsl, h.sM, h.kind, h.p1, h.p2, fun q => (by cases q), fun q => (by cases q)⟩, nd _ rfl⟩
theorem inv_no {n i : Nat} {b : YbrB} {A T : List Bool} (h : Inv n i b A T) (c : b.State = 1) (verb : Int) : Inv n (i + 1) { b with State := 3 } A T ∧ Move n verb b { b with State := 3 } :=
 ⟨{ h.up with st := .inr (.inr (.inr rfl)), yes := fun q => (by cases q), fr := fun q => (by cases q) }, ⟨fun q _ => by omega, Int.le_refl _, by show b.Number ≤ b.Number + 1; omega⟩⟩
theorem inv_heard {n i : Nat} {b : YbrB} {A T : List Bool} (h : Inv n i b A T) (k number : Int) (c : (b.State = 2 ∨ b.State = 3) ∧ number = b.Number ∧ 1 ≤ k ∧ k < b.N ∧ k < 16) (verb : Int) :
  Inv n (i + 1) (heardB b k number) A (T.set k.toNat true) ∧ Move n verb b (heardB b k number) := by
 have n16 := h.n16
 have hN := h.N
 have hlt := h.lt
 unfold heardB
 rw [if_pos c]
 obtain ⟨m, hm⟩ : ∃ m : Nat, k = (m : Int) := ⟨k.toNat, by omega⟩
 subst hm
 have hset := set_mask (l := T) (k := m) (by omega) (by omega)
 rw [← h.to] at hset
 simp only [Int.toNat_natCast]
 exact ⟨{ h.up with lt := by simp [hlt], to := hset, fr := fun q => by have : b.State = 1 := q; omega }, .same _ _ _ _ rfl rfl⟩
theorem startB_err {b : YbrB} {l : List aB} {p : TPlan} {due : Int} (h : (startB b l p due).2 ≠ 0) : startB b l p due = (zeroB, (startB b l p due).2) := by
 unfold startB at h ⊢
 by_cases c1 : pend b
 ·rw [if_pos c1]
 rw [if_neg c1] at h ⊢
 by_cases c2 : fitsS l p = 0
 rotate_left
 ·rw [if_neg c2]
 rw [if_pos c2] at h ⊢
 by_cases c3 : 1099511627776 < maxE l
 ·rw [if_pos c3]
 ·rw [if_neg c3] at h; exact (h rfl).elim
theorem ackB_err {b : YbrB} {k number : Int} {l : List aB} (h : (ackB b k number l).2 ≠ 0) : ackB b k number l = (zeroB, (ackB b k number l).2) := by
 unfold ackB at h ⊢
 by_cases c1 : 1 ≤ k ∧ k < b.N ∧ k < 16
 rotate_left
 ·rw [if_neg c1]
 rw [if_pos c1] at h ⊢
 by_cases c2 : b.State = 1 ∧ number = b.Number
 rotate_left
 ·rw [if_neg c2]
 rw [if_pos c2] at h ⊢
 by_cases c3 : (ackS l b.Joined).2 = 0
 rotate_left
 ·rw [if_neg c3]
 rw [if_pos c3] at h
 exfalso
 revert h
 split
 ·split <;> exact fun h => h rfl
 ·exact fun h => h rfl
theorem zero_told : ((decide (zeroB.N = 0)) && (decide (zeroB.State = 0)) && (decide (zeroB.Number = 0)) && (decide ((wr .i64 ((zeroB.Joined.length : Int) + (zeroB.Made.length : Int))) = 0))) = true := by decide
theorem does_step {n i : Nat} {b : YbrB} {A T : List Bool} (h : Inv n i b A T) (hi : i ≤ 1000) (d : Yl16D) (hF : Few13 d.L d.Plan) (hk : inI64 d.Plan.Kind = true) :
  ∃ c A' T', ul16_does b (toR b A T) d = some (c, toR c A' T', true) ∧ Inv n (i + 1) c A' T' ∧ Move n d.Verb b c := by
 have hl := hF.small
 have hp1 := hF.2.2.1
 have hp2 := hF.2.2.2
 unfold ul16_does
 by_cases v0 : d.Verb = 0
 ·rw [if_pos (by simp [v0]), barrier_Start_eq b d.L d.Plan d.N hl hk (by omega) (by omega), obs, ref16_Start_eq h d.L d.Plan d.N hl (by omega) (by omega), obs]
  by_cases e : (startB b d.L d.Plan d.N).2 = 0
  ·obtain ⟨q1, q2⟩ := inv_start h hi d.L d.Plan d.N hl hF.1 hk (by omega) (by omega) e
   refine ⟨_, _, _, ?_, q1, by rw [v0]; exact q2⟩
   rw [if_neg (by simp [e]), if_pos e]
   simp [e]
  ·refine ⟨b, A, T, ?_, h.up, .same _ _ _ _ rfl rfl⟩
   rw [if_pos (by simp [e]), if_neg e, startB_err e]
   simp only [letM_eq, zero_told, decide_true, Bool.and_true]
 rw [if_neg (by simp [v0])]
 by_cases v1 : d.Verb = 1
 ·rw [if_pos (by simp [v1]), barrier_Ack_inv h d.K d.N d.L hl, obs, ref16_Ack_eq h d.K d.N d.L hl, obs]
  by_cases e : (ackB b d.K d.N d.L).2 = 0
  ·obtain ⟨q1, q2⟩ := inv_ack h d.K d.N d.L e d.Verb
   refine ⟨_, _, _, ?_, q1, q2⟩
   rw [if_neg (by simp [e]), if_pos e]
   simp [e]
  ·refine ⟨b, A, T, ?_, h.up, .same _ _ _ _ rfl rfl⟩
   rw [if_pos (by simp [e]), if_neg e, ackB_err e]
   simp only [letM_eq, zero_told, decide_true, Bool.and_true]
 rw [if_neg (by simp [v1])]
 by_cases v2 : d.Verb = 2
 ·have ht : ur16_Tick (toR b A T) d.N = some (toR (tickB b d.N) A T) := by
   unfold ur16_Tick tickB
   rw [show (toR b A T).State = b.State from rfl, show (toR b A T).Due = b.Due from rfl]
   by_cases c : b.State = 1 ∧ b.Due < d.N
   ·rw [if_pos c, if_pos (by simp [c.1, c.2])]; rfl
   ·rw [if_neg c, if_neg (by simpa using c)]
  rw [if_pos (by simp [v2]), barrier_Tick_eq b d.N h.sJ h.sM, obs, ht, obs, if_neg (by decide)]
  refine ⟨_, _, _, rfl, ?_⟩
  unfold tickB
  by_cases c : b.State = 1 ∧ b.Due < d.N
  ·rw [if_pos c]; exact inv_no h c.1 d.Verb
  ·rw [if_neg c]; exact ⟨h.up, .same _ _ _ _ rfl rfl⟩
 rw [if_neg (by simp [v2])]
 by_cases v3 : d.Verb = 3
 ·rw [if_pos (by simp [v3]), barrier_Abort_eq b h.sJ h.sM, obs]
  unfold ur16_Abort
  rw [show (toR b A T).State = b.State from rfl]
  by_cases c : b.State = 1
  ·rw [if_pos c, if_neg (by simp [c]), letM_eq, obs, if_neg (by simp)]
   exact ⟨_, _, _, rfl, inv_no h c d.Verb⟩
  ·rw [if_neg c, if_pos (by simp [c]), obs, if_pos (by decide)]
   refine ⟨b, A, T, ?_, h.up, .same _ _ _ _ rfl rfl⟩
   simp only [letM_eq, decide_true, Bool.true_and]
   rw [zero_told]
 rw [if_neg (by simp [v3])]
 by_cases v4 : d.Verb = 4
 ·rw [if_pos (by simp [v4]), barrier_Heard_eq b d.K d.N h.sJ h.sM, obs, ref16_Heard_eq h d.K d.N, obs, if_neg (by decide)]
  by_cases c : (b.State = 2 ∨ b.State = 3) ∧ d.N = b.Number ∧ 1 ≤ d.K ∧ d.K < b.N ∧ d.K < 16
  ·rw [if_pos c]
   exact ⟨_, _, _, rfl, inv_heard h d.K d.N c d.Verb⟩
  ·rw [if_neg c]
   have e : heardB b d.K d.N = b := by unfold heardB; rw [if_neg c]
   rw [e]
   exact ⟨_, _, _, rfl, h.up, .same _ _ _ _ rfl rfl⟩
 rw [if_neg (by simp [v4]), if_neg (by decide)]
 exact ⟨_, _, _, rfl, h.up, .same _ _ _ _ rfl rfl⟩
def Few16 (l : List Yl16D) : Prop := (∀ d ∈ l, Few13 d.L d.Plan) ∧ l.length ≤ 30
instance (l : List Yl16D) : Decidable (Few16 l) := by unfold Few16; infer_instance
theorem few16_eq (l : List Yl16D) (hl : l.length ≤ 1000000000000000) : ul16_few l = some (decide (Few16 l)) := by
 unfold ul16_few
 rw [loop_all l.length hl (fun i => Few13 (l.getD i default).L (l.getD i default).Plan) false () (fun i hi => ?_) (by simp [ul16_few_L1])]
 ·by_cases h : ∀ i, i < l.length → Few13 (l.getD i default).L (l.getD i default).Plan
  ·rw [if_pos h, obs, onS_l, letM_eq]
   refine sdd ?_
   unfold Few16
   constructor
   ·intro h2
    refine ⟨fun d hd => ?_, by omega⟩
    obtain ⟨i, hi, rfl⟩ := List.getElem_of_mem hd
    have := h i hi
    rwa [show l.getD i default = l[i] by simp [List.getD, hi]] at this
   ·intro h2; omega
  ·rw [if_neg h, obs, onS_r, decide_eq_false]
   intro h2
   exact h fun i hi => h2.1 _ (by rw [show l.getD i default = l[i] by simp [List.getD, hi]]; exact List.getElem_mem hi)
 ·simp only [ul16_few_L1]
  rw [if_pos (by simp; omega), six_of hi, obs, letM_eq, Few13_eq, obs]
  simp only [wr_succ (show i < 1000000000000000 by omega)]
  by_cases h : Few13 (l.getD i default).L (l.getD i default).Plan
  ·rw [if_neg (by rw [decide_eq_true h]; simp), if_pos h]
  ·rw [if_pos (by rw [decide_eq_false h]; rfl), if_neg h]
theorem mask_none : ∀ n, n < 17 → maskN (List.replicate n false) = 0 := by decide
theorem inv_new (m : Nat) (h2 : 2 ≤ m) (h16 : m ≤ 16) : ur16_New (m : Int) = some (toR { zeroB with N := (m : Int) } (List.replicate m false) (List.replicate m false)) ∧ Inv m 0 { zeroB with N := (m : Int) } (List.replicate m false) (List.replicate m false) := by
 constructor
 ·unfold ur16_New
  rw [show mkS 1 (m : Int) = some () by unfold mkS; rw [if_pos (by omega)]]
  simp only [obs, letM_eq, Int.toNat_natCast]; rfl
 ·exact ⟨h2, h16, rfl, .inl rfl, Int.le_refl _, Int.le_refl _, by simp, by simp, by rw [mask_none m (by omega)]; rfl, by rw [mask_none m (by omega)]; rfl, Small.nil, by show ([] : List aB).length ≤ 900; decide, Small.nil, by show inI64 zeroB.Plan.Kind = true; decide, by show zeroB.Plan.Name.size ≤ 1000000; decide, by show zeroB.Plan.Other.size ≤ 1000000; decide, fun q => (by cases q), fun q => (by cases q)⟩
theorem gd_unit {p : Prop} [Decidable p] : gd p (some ()) = some () := by by_cases h : p <;> simp [gd, h]
theorem BarrierDecides_true (n : Int) (l : List Yl16D) (hl : l.length * 104 ≤ reachBytes) (hk : ∀ d ∈ l, (Lit.int .i64 d.Plan.Kind).wf = true) : ul16_BarrierDecides n l = some true := by
 have hlen : l.length ≤ 1000000000000000 := by unfold reachBytes at hl; omega
 unfold ul16_BarrierDecides
 rw [barrier_New_eq, obs, few16_eq l hlen, awake16_eq]
 by_cases hn : 2 ≤ n ∧ n ≤ 16
 rotate_left
 ·rw [if_neg hn]
  simp only []
  rw [gd_f (by decide), obs, if_pos (by simp), obs]
 rw [if_pos hn]
 simp only []
 rw [gd_t (by decide), obs]
 by_cases hF : Few16 l
 rotate_left
 ·rw [if_pos (by rw [decide_eq_false hF]; rfl), obs]
 rw [if_neg (by rw [decide_eq_true hF]; simp)]
 obtain ⟨m, rfl⟩ : ∃ m : Nat, n = (m : Int) := ⟨n.toNat, by omega⟩
 obtain ⟨w1, w2⟩ := inv_new m (by omega) (by omega)
 rw [w1, obs]
 have hall : wr .i64 (iShl .i64 1 ((m : Nat) : Int) - 1) = allB (m : Int) := by
  unfold allB
  rw [show min (max (m : Int) 0) 16 = (m : Int) by omega]
 have hsh : sh0 (m : Int) = some () := by unfold sh0; rw [if_neg (by omega)]
 have key : ∃ r, loopM (ul16_BarrierDecides_L1 (m : Int) l) fuel (0, toR { zeroB with N := (m : Int) } (List.replicate m false) (List.replicate m false), { zeroB with N := (m : Int) }) = some r ∧ r = .inl () := by
  refine loopM_ind (body := ul16_BarrierDecides_L1 (m : Int) l) (fun i s => s.1 = (i : Int) ∧ ∃ A T, s.2.1 = toR s.2.2 A T ∧ Inv m i s.2.2 A T) l.length hlen _ ?_ ?_ ⟨rfl, _, _, rfl, w2⟩
  ·rintro i ⟨s1, r, b⟩ hi ⟨e1, A, T, e2, h⟩
   simp only at e1 e2 h
   subst e1 e2
   have hm : l.getD i default ∈ l := by rw [show l.getD i default = l[i] by simp [List.getD, hi]]; exact List.getElem_mem hi
   have h30 := hF.2
   obtain ⟨c, A', T', q1, q2, q3⟩ := does_step h (by omega) (l.getD i default) (hF.1 _ hm) (wf_i64 (hk _ hm))
   refine .inl ⟨((i + 1 : Nat), toR c A' T', c), ?_, rfl, A', T', rfl, q2⟩
   simp only [ul16_BarrierDecides_L1]
   rw [if_pos (by simp; omega), six_of hi, obs, letM_eq, q1, obs, letM_eq, hsh, gd_unit, obs, letM_eq, letM_eq, hall]
   have hnum := h.num
   have hn0 := h.num0
   have k0 := q3.num0
   have k1 := q3.num1
   have kw : wr .i64 (b.Number + 1) = b.Number + 1 := wr_id (by omega)
   have v15 : (((decide (b.State = 2)) || (decide (b.State = 3))) && (!decide (c.State = b.State)) && (((!decide ((l.getD i default).Verb = 0)) || (!decide (b.Told = allB (m : Int)))) || (!decide (c.State = 1)))) = false := by
    rw [Bool.eq_false_iff]
    intro k
    simp only [Bool.and_eq_true, Bool.or_eq_true, decide_eq_true_eq, Bool.not_eq_true', decide_eq_false_iff_not] at k
    have := q3.stay k.1.1 k.1.2
    rcases k.2 with (k2 | k2) | k2
    ·exact k2 this.1
    ·exact k2 this.2.1
    ·exact k2 this.2.2
   rw [v15, kw, if_neg (by simp; omega), gd_unit, obs, letM_eq]
   have v18 : ((decide (c.State = 2)) && (!decide (c.Acked = allB (m : Int)))) = false := by
    rw [Bool.eq_false_iff]
    intro k
    simp only [Bool.and_eq_true, decide_eq_true_eq, Bool.not_eq_true', decide_eq_false_iff_not] at k
    exact k.2 (q2.yes k.1)
   have v19 : ((decide (c.State = 1)) && (!decide (c.Told = 1))) = false := by
    rw [Bool.eq_false_iff]
    intro k
    simp only [Bool.and_eq_true, decide_eq_true_eq, Bool.not_eq_true', decide_eq_false_iff_not] at k
    exact k.2 (q2.fr k.1)
   rw [v18, v19, if_neg (by simp), wr_succ (show i < 1000000000000000 by omega)]
  ·rintro ⟨s1, r, b⟩ ⟨e1, A, T, e2, h⟩
   simp only at e1 e2 h
   subst e1
   exact ⟨_, by simp only [ul16_BarrierDecides_L1]; rw [if_neg (by simp)], rfl⟩
 obtain ⟨r, h1, rfl⟩ := key
 rw [h1, obs, onS_l, obs]
end Go.Av
