/- The plain law: what the mirrors answer. -/
import Derived.Test.YtakadpmjdhcckaaAvWireJoinsM1
namespace Go.Av
set_option linter.unusedSectionVars false
set_option linter.unusedVariables false
set_option linter.unusedSimpArgs false

theorem fuel_big : 1000000000000000 < fuel := by decide
theorem wr_id {n : Int} (h : -9223372036854775808 ≤ n ∧ n ≤ 9223372036854775807) : wr .i64 n = n := wrap_id h.1 h.2
theorem wr_succ {i : Nat} (h : i < 1000000000000000) : wr .i64 ((i : Int) + 1) = ((i + 1 : Nat) : Int) := by rw [wr_id (by omega)]; omega
theorem six_of {α : Type} {xs : List α} {i : Nat} (h : i < xs.length) : six xs (i : Int) = some i := by simp [six]; omega
theorem app_of {α : Type} {b : Nat} {xs ys : List α} (h : (xs.length + ys.length) * b ≤ 140737488355328) : app b xs ys = some (xs ++ ys) := by simp [app, h]
@[simp] theorem gd_t {α : Type} [Inhabited α] {p : Prop} [Decidable p] {m : Option α} (h : p) : gd p m = m := by simp [gd, h]
@[simp] theorem gd_f {α : Type} [Inhabited α] {p : Prop} [Decidable p] {m : Option α} (h : ¬ p) : gd p m = some default := by simp [gd, h]
@[simp] theorem letM_eq {α β : Type} (e : α) (k : α → Option β) : letM e k = k e := rfl
@[simp] theorem onS_l {α β γ : Type} (f : α → Option γ) (g : β → Option γ) (a : α) : onS f g (.inl a) = f a := rfl
@[simp] theorem onS_r {α β γ : Type} (f : α → Option γ) (g : β → Option γ) (b : β) : onS f g (.inr b) = g b := rfl
theorem fix_of {k i : Nat} (h : i < k) : fix_ k (i : Int) = some ⟨i, h⟩ := by simp [fix_]; omega

section
variable {σ ρ : Type} {body : σ → Option (σ ⊕ ρ)}
theorem loopM_ind' (I : Nat → σ → Prop) (N : Nat) (Q : ρ → Prop) (step : ∀ i s, i < N → I i s → (∃ t, body s = some (.inl t) ∧ I (i + 1) t) ∨ (∃ r, body s = some (.inr r) ∧ Q r)) (fin : ∀ s, I N s → ∃ r, body s = some (.inr r) ∧ Q r) :
    ∀ (k i : Nat) (s : σ), i + k = N → I i s → ∀ n, k < n → ∃ r, loopM body n s = some r ∧ Q r
  | k, i, s, hk, hI, 0, hn => by omega
  | 0, i, s, hk, hI, n + 1, hn => by
    obtain rfl : i = N := by omega
    obtain ⟨r, h1, h2⟩ := fin s hI
    exact ⟨r, by simp [loopM, h1], h2⟩
  | k + 1, i, s, hk, hI, n + 1, hn => by
    rcases step i s (by omega) hI with ⟨t, h1, h2⟩ | ⟨r, h1, h2⟩
    · obtain ⟨r, h3, h4⟩ := loopM_ind' I N Q step fin k (i + 1) t (by omega) h2 n (by omega)
      exact ⟨r, by simp [loopM, h1, h3], h4⟩
    · exact ⟨r, by simp [loopM, h1], h2⟩
theorem loopM_ind (I : Nat → σ → Prop) (N : Nat) (hN : N ≤ 1000000000000000) (Q : ρ → Prop) (step : ∀ i s, i < N → I i s → (∃ t, body s = some (.inl t) ∧ I (i + 1) t) ∨ (∃ r, body s = some (.inr r) ∧ Q r))
    (fin : ∀ s, I N s → ∃ r, body s = some (.inr r) ∧ Q r) {s0 : σ} (h0 : I 0 s0) : ∃ r, loopM body fuel s0 = some r ∧ Q r :=
  loopM_ind' I N Q step fin N 0 s0 (by omega) h0 fuel (by have := fuel_big; omega)
theorem loopM_eq (I : Nat → σ → Prop) (N : Nat) (hN : N ≤ 1000000000000000) (q : ρ) (step : ∀ i s, i < N → I i s → (∃ t, body s = some (.inl t) ∧ I (i + 1) t) ∨ (body s = some (.inr q)))
    (fin : ∀ s, I N s → body s = some (.inr q)) {s0 : σ} (h0 : I 0 s0) : loopM body fuel s0 = some q := by
  obtain ⟨r, h1, rfl⟩ := loopM_ind I N hN (fun r => r = q) (fun i s hi hI => (step i s hi hI).imp id fun h => ⟨q, h, rfl⟩) (fun s hI => ⟨q, fin s hI, rfl⟩) h0
  exact h1
end

/-- A loop over numbers that stops at the first one that is told to. -/
theorem loop_find {ρ : Type} {body : Int → Option (Int ⊕ ρ)} (N : Nat) (hN : N ≤ 1000000000000000) (bad : Nat → Option ρ) (fin : ρ) (hb : ∀ i, i < N → body (i : Int) = some (match bad i with | some r => .inr r | none => .inl (((i + 1 : Nat)) : Int)))
    (hf : body (N : Int) = some (.inr fin)) : loopM body fuel 0 = some (((List.range N).findSome? bad).getD fin) := by
  refine loopM_eq (fun i s => s = (i : Int) ∧ ∀ j, j < i → bad j = none) N hN _ ?_ ?_ ⟨rfl, fun j h => by omega⟩
  · rintro i s hi ⟨rfl, hI⟩
    cases hbi : bad i with
    | none =>
      refine .inl ⟨_, by rw [hb i hi, hbi], rfl, fun j hj => ?_⟩
      rcases Nat.lt_succ_iff_lt_or_eq.1 hj with h | rfl
      · exact hI j h
      · exact hbi
    | some r =>
      refine .inr ?_
      rw [hb i hi, hbi]
      have : (List.range N).findSome? bad = some r := by
        rw [show N = i + (N - i) from by omega, List.range_add, List.findSome?_append]
        have h1 : (List.range i).findSome? bad = none := by
          rw [List.findSome?_eq_none_iff]; intro x hx; exact hI x (by simpa using hx)
        rw [h1]
        obtain ⟨m, hm⟩ : ∃ m, N - i = m + 1 := ⟨N - i - 1, by omega⟩
        rw [hm, List.range_succ_eq_map]
        simp [hbi]
      simp [this]
  · rintro s ⟨rfl, hI⟩
    rw [hf]
    have : (List.range N).findSome? bad = none := by rw [List.findSome?_eq_none_iff]; intro x hx; exact hI x (by simpa using hx)
    simp [this]

end Go.Av
namespace Go.Av
set_option linter.unusedSectionVars false
set_option linter.unusedVariables false
set_option linter.unusedSimpArgs false

/-- A loop over numbers that stops at the first one that is not good. -/
theorem loop_all {ρ ξ : Type} {body : Int → Option (Int ⊕ (ξ ⊕ ρ))} (N : Nat) (hN : N ≤ 1000000000000000) (good : Nat → Prop) [DecidablePred good] (r : ρ) (x : ξ)
    (hb : ∀ i, i < N → body (i : Int) = some (if good i then .inl (((i + 1 : Nat)) : Int) else .inr (.inr r))) (hf : body (N : Int) = some (.inr (.inl x))) :
    loopM body fuel 0 = some (if ∀ i, i < N → good i then .inl x else .inr r) := by
  have h := loop_find (body := body) N hN (fun i => if good i then none else some (.inr r)) (.inl x) (fun i hi => by rw [hb i hi]; by_cases h : good i <;> simp [-List.getD_eq_getElem?_getD, h]) hf
  rw [h]
  by_cases hg : ∀ i, i < N → good i
  · have : (List.range N).findSome? (fun i => if good i then none else some (.inr r : ξ ⊕ ρ)) = none := by
      rw [List.findSome?_eq_none_iff]; intro i hi; simp [-List.getD_eq_getElem?_getD, hg i (by simpa using hi)]
    rw [this]; simp [-List.getD_eq_getElem?_getD, if_pos hg]
  · obtain ⟨v, hv⟩ : ∃ v, (List.range N).findSome? (fun i => if good i then none else some (.inr r : ξ ⊕ ρ)) = some v := by
      cases hc : (List.range N).findSome? (fun i => if good i then none else some (.inr r : ξ ⊕ ρ)) with
      | some v => exact ⟨v, rfl⟩
      | none =>
        rw [List.findSome?_eq_none_iff] at hc
        exact (hg fun i hi => by have := hc i (by simpa using hi); by_cases h : good i; exact h; simp [-List.getD_eq_getElem?_getD, h] at this).elim
    obtain ⟨i, hi, hv2⟩ := List.exists_of_findSome?_eq_some hv
    rw [hv, if_neg hg]
    by_cases h : good i <;> simp [-List.getD_eq_getElem?_getD, h] at hv2
    simp [-List.getD_eq_getElem?_getD, hv2]

def IsN (n : Int) : Prop := -1099511627776 ≤ n ∧ n ≤ 1099511627776
instance (n : Int) : Decidable (IsN n) := by unfold IsN; infer_instance
theorem sd {b : Bool} {P : Prop} [Decidable P] (h : b = true ↔ P) : some b = some (decide P) := by rw [show b = decide P from Bool.eq_iff_iff.2 (by simpa using h)]
theorem num_Is_eq (n : Int) : num_Is n = some (decide (IsN n)) := sd (by simp [-List.getD_eq_getElem?_getD, IsN])
theorem ref_Is_eq (n : Int) : usufructref01_Is n = some (decide (IsN n)) := sd (by simp [-List.getD_eq_getElem?_getD, IsN, and_comm])

theorem gd_and {p b : Bool} : gd (p = true) (some b) = some (if p = true then b else false) := by cases p <;> rfl
theorem wr_pred {i : Nat} (h0 : 0 < i) (h : i < 1000000000000000) : wr .i64 ((i : Int) - 1) = ((i - 1 : Nat) : Int) := by rw [wr_id (by omega)]; omega
end Go.Av
namespace Go.Av
set_option linter.unusedSectionVars false
set_option linter.unusedVariables false
set_option linter.unusedSimpArgs false

def Cnt (n : Int) : Prop := 0 ≤ n ∧ n ≤ 1099511627776
instance (n : Int) : Decidable (Cnt n) := by unfold Cnt; infer_instance
def HOk (h : THold) : Prop := 0 ≤ h.Replica ∧ h.Replica < 16 ∧ 1 ≤ h.Number ∧ h.Number ≤ 1099511627776 ∧ Cnt h.Amount ∧ Cnt h.Due ∧ 1 ≤ h.State ∧ h.State ≤ 3
instance (h : THold) : Decidable (HOk h) := by unfold HOk; infer_instance
theorem hold_count_eq (n : Int) : hold_count n = some (decide (Cnt n)) := by
  unfold hold_count
  rw [num_Is_eq]
  by_cases h : 0 ≤ n
  · rw [gd_t (by simp [h])]; refine sd ?_; simp only [Bool.and_eq_true, decide_eq_true_eq]; unfold IsN Cnt; omega
  · rw [gd_f (by simp [-List.getD_eq_getElem?_getD, h])]; refine sd ?_; simp [-List.getD_eq_getElem?_getD, h, Cnt]
theorem ref_counts_eq (n : Int) : usufructref06_counts n = some (decide (Cnt n)) := by
  unfold usufructref06_counts
  rw [ref_Is_eq]
  by_cases h : 0 ≤ n
  · rw [gd_t (by simp [h])]; refine sd ?_; simp only [Bool.and_eq_true, decide_eq_true_eq]; unfold IsN Cnt; omega
  · rw [gd_f (by simp [-List.getD_eq_getElem?_getD, h])]; refine sd ?_; simp [-List.getD_eq_getElem?_getD, h, Cnt]
theorem hold_Right_eq (h : THold) : hold_Right h = some (decide (HOk h)) := by
  unfold hold_Right
  simp only [num_Is_eq, hold_count_eq, letM_eq, gd_and, Option.bind]
  refine sd ?_
  simp only [Bool.and_eq_true, Bool.if_false_right, decide_eq_true_eq]
  first | unfold HOk IsN Cnt | unfold HOk Cnt
  omega
theorem ref_Right_eq (h : THold) : usufructref06_Right h = some (decide (HOk h)) := by
  unfold usufructref06_Right
  simp only [ref_counts_eq, letM_eq, gd_and, Option.bind]
  refine sd ?_
  simp only [Bool.and_eq_true, Bool.if_false_right, decide_eq_true_eq]
  first | unfold HOk IsN Cnt | unfold HOk Cnt
  omega

def HLt (a b : THold) : Prop := a.Replica < b.Replica ∨ (a.Replica = b.Replica ∧ a.Number < b.Number)
instance (a b : THold) : Decidable (HLt a b) := by unfold HLt; infer_instance
theorem HLt.trans {a b c : THold} (h : HLt a b) (k : HLt b c) : HLt a c := by unfold HLt at *; omega
theorem cmp_ge (a b : THold) : 0 ≤ holdCmp a b ↔ ¬ HLt a b := by
  unfold holdCmp HLt
  by_cases h : a.Replica = b.Replica
  · by_cases h1 : a.Number = b.Number
    · simp [-List.getD_eq_getElem?_getD, h, h1]
    · by_cases h2 : a.Number < b.Number <;> simp [-List.getD_eq_getElem?_getD, h, h1, h2]
  · by_cases h2 : a.Replica < b.Replica <;> simp [-List.getD_eq_getElem?_getD, h, h2]
theorem ref_Ahead_eq (a b : THold) : usufructref06_Ahead a b = some (decide (HLt a b)) := sd (by simp [-List.getD_eq_getElem?_getD, HLt])

def Rts (l : List THold) : Prop := (∀ h ∈ l, HOk h) ∧ l.Pairwise HLt ∧ l.length ≤ 16
instance (l : List THold) : Decidable (Rts l) := by unfold Rts; infer_instance
def Link (l : List THold) (i : Nat) : Prop := HOk (l.getD i default) ∧ (0 < i → HLt (l.getD (i - 1) default) (l.getD i default))
instance (l : List THold) : DecidablePred (Link l) := fun i => by unfold Link; infer_instance
theorem links_iff (l : List THold) : (∀ i, i < l.length → Link l i) ↔ (∀ h ∈ l, HOk h) ∧ l.Pairwise HLt := by
  constructor
  · intro h
    refine ⟨fun x hx => ?_, ?_⟩
    · obtain ⟨i, hi, rfl⟩ := List.getElem_of_mem hx
      simpa [List.getD, hi] using (h i hi).1
    · rw [List.pairwise_iff_getElem]
      intro i j hi hj hij
      induction j with
      | zero => omega
      | succ j ih =>
        have h1 := (h (j + 1) hj).2 (by omega)
        have e1 : l.getD (j + 1 - 1) default = l[j] := by simp [List.getD, show j < l.length by omega]
        have e2 : l.getD (j + 1) default = l[j + 1] := by simp [List.getD, hj]
        rw [e1, e2] at h1
        rcases Nat.lt_succ_iff_lt_or_eq.1 hij with h2 | rfl
        · exact (ih (by omega) h2).trans h1
        · exact h1
  · rintro ⟨h1, h2⟩ i hi
    rw [List.pairwise_iff_getElem] at h2
    refine ⟨by rw [show l.getD i default = l[i] by simp [List.getD, hi]]; exact h1 _ (List.getElem_mem hi), fun h0 => ?_⟩
    rw [show l.getD i default = l[i] by simp [List.getD, hi], show l.getD (i - 1) default = l[i - 1] by simp [List.getD, show i - 1 < l.length by omega]]
    exact h2 _ _ (by omega) hi (by omega)

theorem hold_Rights_eq (l : List THold) (hl : l.length ≤ 1000000000000000) : hold_Rights l = some (decide (Rts l)) := by
  unfold hold_Rights
  rw [loop_all l.length hl (Link l) false () (fun i hi => ?_) (by simp [-List.getD_eq_getElem?_getD, hold_Rights_L1])]
  · by_cases h : ∀ i, i < l.length → Link l i
    · rw [if_pos h]
      have := (links_iff l).1 h
      refine sd ?_
      simp only [Rts, this.1, this.2, true_and, decide_eq_true_eq]
      exact ⟨fun h => ⟨this.1, by omega⟩, fun h => by omega⟩
    · rw [if_neg h]
      have : ¬ Rts l := fun h2 => h ((links_iff l).2 ⟨h2.1, h2.2.1⟩)
      simp [-List.getD_eq_getElem?_getD, this]
  · simp only [hold_Rights_L1, hold_Right_eq, six_of hi, letM_eq, Option.bind]
    rw [if_pos (by simp; omega)]
    simp only [wr_succ (show i < 1000000000000000 by omega)]
    by_cases h1 : HOk (l.getD i default)
    · by_cases h0 : 0 < i
      · rw [gd_t (by simp [-List.getD_eq_getElem?_getD, h1, h0]), wr_pred h0 (by omega), six_of (by omega)]
        simp only [Option.bind]
        rw [gd_t (by simp [-List.getD_eq_getElem?_getD, h1, h0]), hold_compare_eq]
        simp only [Option.bind, cmp_ge, Link, h1, h0, true_and]
        by_cases h2 : HLt (l.getD (i - 1) default) (l.getD i default) <;> simp [-List.getD_eq_getElem?_getD, h2, h0]
      · obtain rfl : i = 0 := by omega
        simp [-List.getD_eq_getElem?_getD, h1, Link]
    · have : ¬ Link l i := fun h => h1 h.1
      rw [gd_f (by simp [-List.getD_eq_getElem?_getD, h1])]
      simp only [Option.bind]
      rw [gd_f (by simp [-List.getD_eq_getElem?_getD, h1])]
      simp [-List.getD_eq_getElem?_getD, h1, this]
theorem ref_Rights_eq (l : List THold) (hl : l.length ≤ 1000000000000000) : usufructref06_Rights l = some (decide (Rts l)) := by
  unfold usufructref06_Rights
  rw [loop_all l.length hl (Link l) false () (fun i hi => ?_) (by simp [-List.getD_eq_getElem?_getD, usufructref06_Rights_L1])]
  · by_cases h : ∀ i, i < l.length → Link l i
    · rw [if_pos h]
      have := (links_iff l).1 h
      refine sd ?_
      simp only [Rts, this.1, this.2, true_and, decide_eq_true_eq]
      exact ⟨fun h => ⟨this.1, by omega⟩, fun h => by omega⟩
    · rw [if_neg h]
      have : ¬ Rts l := fun h2 => h ((links_iff l).2 ⟨h2.1, h2.2.1⟩)
      simp [-List.getD_eq_getElem?_getD, this]
  · simp only [usufructref06_Rights_L1, ref_Right_eq, six_of hi, letM_eq, Option.bind]
    rw [if_pos (by simp; omega)]
    simp only [wr_succ (show i < 1000000000000000 by omega)]
    by_cases h1 : HOk (l.getD i default)
    · by_cases h0 : 0 < i
      · rw [gd_t (by simp [-List.getD_eq_getElem?_getD, h1, h0]), wr_pred h0 (by omega), six_of (by omega)]
        simp only [Option.bind]
        rw [gd_t (by simp [-List.getD_eq_getElem?_getD, h1, h0])]
        simp only [Option.bind]
        rw [gd_t (by simp [-List.getD_eq_getElem?_getD, h1, h0]), ref_Ahead_eq]
        simp only [Option.bind, Link, h1, h0, true_and]
        by_cases h2 : HLt (l.getD (i - 1) default) (l.getD i default) <;> simp [-List.getD_eq_getElem?_getD, h2, h0]
      · obtain rfl : i = 0 := by omega
        simp [-List.getD_eq_getElem?_getD, h1, Link]
    · have : ¬ Link l i := fun h => h1 h.1
      rw [gd_f (by simp [-List.getD_eq_getElem?_getD, h1])]
      simp only [Option.bind]
      rw [gd_f (by simp [-List.getD_eq_getElem?_getD, h1])]
      simp only [Option.bind]
      rw [gd_f (by simp [-List.getD_eq_getElem?_getD, h1])]
      simp [-List.getD_eq_getElem?_getD, h1, this]

end Go.Av
namespace Go.Av
set_option linter.unusedSectionVars false
set_option linter.unusedVariables false
set_option linter.unusedSimpArgs false

def due (r t : Int) (h : THold) : Bool := decide (h.Replica = r) && decide (h.State = 1) && decide (h.Due < t)
def ex (r t : Int) (h : THold) : THold := if due r t h = true then { h with State := 3 } else h
def isK (r n : Int) (h : THold) : Bool := decide (h.Replica = r) && decide (h.Number = n)
end Go.Av
namespace Go.Av
set_option linter.unusedSectionVars false
set_option linter.unusedVariables false
set_option linter.unusedSimpArgs false

def putS : List THold → THold → List THold
  | [], x => [x]
  | h :: t, x => if HLt h x then h :: putS t x else x :: h :: t
theorem putS_length (x : THold) : ∀ l : List THold, (putS l x).length = l.length + 1
  | [] => rfl
  | h :: t => by unfold putS; split <;> simp [putS_length x t]
theorem putS_perm (x : THold) : ∀ l : List THold, (putS l x).Perm (x :: l)
  | [] => .refl _
  | h :: t => by
    unfold putS
    split
    · exact ((putS_perm x t).cons h).trans (.swap x h t)
    · exact .refl _
theorem putS_mem {x y : THold} {l : List THold} : y ∈ putS l x ↔ y = x ∨ y ∈ l := by rw [(putS_perm x l).mem_iff, List.mem_cons]
/-- Another key. -/
def Off (h x : THold) : Prop := ¬ (h.Replica = x.Replica ∧ h.Number = x.Number)
theorem HLt.off {a b : THold} (h : HLt a b) : Off a b ∧ Off b a := by unfold HLt Off at *; omega
theorem lt_or {a b : THold} (h : Off a b) (k : ¬ HLt a b) : HLt b a := by unfold HLt Off at *; omega
theorem putS_sorted (x : THold) : ∀ l : List THold, l.Pairwise HLt → (∀ h ∈ l, Off h x) → (putS l x).Pairwise HLt
  | [], _, _ => by simp [putS]
  | h :: t, hl, ho => by
    unfold putS
    rw [List.pairwise_cons] at hl
    split
    · rename_i hx
      rw [List.pairwise_cons]
      refine ⟨fun y hy => ?_, putS_sorted x t hl.2 fun y hy => ho y (by simp [hy])⟩
      rcases putS_mem.1 hy with rfl | hy
      · exact hx
      · exact hl.1 y hy
    · rename_i hx
      have h1 := lt_or (ho h (by simp)) hx
      rw [List.pairwise_cons, List.pairwise_cons]
      refine ⟨fun y hy => ?_, hl⟩
      rcases List.mem_cons.1 hy with rfl | hy
      · exact h1
      · exact h1.trans (hl.1 y hy)
theorem sorted_tri {l : List THold} (h : l.Pairwise HLt) {a b : THold} (ha : a ∈ l) (hb : b ∈ l) : a = b ∨ HLt a b ∨ HLt b a := by
  obtain ⟨i, hi, rfl⟩ := List.getElem_of_mem ha
  obtain ⟨j, hj, rfl⟩ := List.getElem_of_mem hb
  rw [List.pairwise_iff_getElem] at h
  rcases Nat.lt_trichotomy i j with h1 | rfl | h1
  · exact .inr (.inl (h _ _ hi hj h1))
  · exact .inl rfl
  · exact .inr (.inr (h _ _ hj hi h1))
/-- What is sorted is told by its order. -/
theorem sort_uniq {l m : List THold} (hp : l.Perm m) (hm : m.Pairwise HLt) : sortF holdCmp l = m := by
  refine List.Perm.eq_of_pairwise (le := fun a b => ¬ HLt b a) ?_ ?_ ?_ ((sortF_perm holdCmp_swo l).trans hp)
  · intro a b ha hb h1 h2
    rcases sorted_tri hm (hp.mem_iff.1 ((sortF_perm holdCmp_swo l).mem_iff.1 ha)) hb with h | h | h
    · exact h
    · exact (h2 h).elim
    · exact (h1 h).elim
  · exact (sortF_sorted holdCmp_swo l).imp fun {a b} h => by rw [holdCmp_lt] at h; simpa [HLt] using h
  · exact hm.imp fun {a b} h k => by unfold HLt at *; omega

theorem putS_split (x : THold) : ∀ l : List THold, l.take (l.findIdx fun h => !decide (HLt h x)) ++ ([x] ++ l.drop (l.findIdx fun h => !decide (HLt h x))) = putS l x
  | [] => rfl
  | h :: t => by
    unfold putS
    rw [List.findIdx_cons]
    by_cases hx : HLt h x
    · simp only [hx, decide_true, Bool.not_true, cond_false, if_true, List.take_succ_cons, List.drop_succ_cons]
      rw [List.cons_append, putS_split x t]
    · simp [hx]
theorem find_loop (l : List THold) (x : THold) (hl : l.length ≤ 1000000000000) {body : Int → Option (Int ⊕ Int)} (hb : ∀ i, i < l.length → body (i : Int) = some (if HLt (l.getD i default) x then .inl (((i + 1 : Nat)) : Int) else .inr (i : Int)))
    (hf : body (l.length : Int) = some (.inr (l.length : Int))) : loopM body fuel 0 = some ((l.findIdx fun h => !decide (HLt h x) : Nat) : Int) := by
  refine loopM_eq (fun i s => s = (i : Int) ∧ i ≤ (l.findIdx fun h => !decide (HLt h x))) l.length (by omega) _ ?_ ?_ ⟨rfl, Nat.zero_le _⟩
  · rintro i s hi ⟨rfl, hI⟩
    rw [hb i hi]
    by_cases h : HLt (l.getD i default) x
    · refine .inl ⟨_, by rw [if_pos h], rfl, ?_⟩
      rcases Nat.lt_or_eq_of_le hI with h1 | h1
      · exact h1
      · have := @List.findIdx_getElem _ (fun h => !decide (HLt h x)) l (by omega)
        simp only [← h1] at this
        rw [List.getD, List.getElem?_eq_getElem hi] at h
        simp [h] at this
        exact (this h).elim
    · refine .inr ?_
      rw [if_neg h]
      have : ¬ i < (l.findIdx fun h => !decide (HLt h x)) := fun h1 => by
        have := List.not_of_lt_findIdx h1
        rw [List.getD, List.getElem?_eq_getElem hi] at h
        simp at this
        exact h this
      rw [show (l.findIdx fun h => !decide (HLt h x)) = i by omega]
  · rintro s ⟨rfl, hI⟩
    rw [hf]
    have := @List.findIdx_le_length _ (fun h => !decide (HLt h x)) l
    rw [show (l.findIdx fun h => !decide (HLt h x)) = l.length by omega]
theorem Put_own_eq (l : List THold) (x : THold) (hl : l.length ≤ 1000000000000) : usufructref06_Put_own l x = some (putS l x) := by
  have hk := @List.findIdx_le_length _ (fun h => !decide (HLt h x)) l
  unfold usufructref06_Put_own
  rw [find_loop l x hl (fun i hi => ?_) (by simp [usufructref06_Put_own_L1])]
  · rw [← putS_split x l]
    generalize (l.findIdx fun h => !decide (HLt h x)) = k at hk
    have e1 : ssl l 0 (k : Int) = some (l.take k) := by simp [ssl]; omega
    have e2 : ssl l (k : Int) (l.length : Int) = some (l.drop k) := by simp [ssl]; omega
    simp only [e1, e2, Option.bind]
    rw [app_of (by simp; omega)]
    simp only [List.nil_append]
    rw [app_of (by simp; omega)]
    simp only []
    rw [app_of (by simp; omega)]
    simp only [List.append_assoc]
  · simp only [usufructref06_Put_own_L1]
    rw [gd_t (by simp; omega), six_of hi]
    simp only [Option.bind]
    rw [gd_t (by simp; omega), ref_Ahead_eq]
    simp only [Option.bind, wr_succ (show i < 1000000000000000 by omega)]
    by_cases h : HLt (l.getD i default) x
    · rw [if_pos (by simp only [h, decide_true, Bool.and_true, decide_eq_true_eq]; omega), if_pos h]
    · rw [if_neg (by simp only [h, decide_false, Bool.and_false]; exact Bool.false_ne_true), if_neg h]

end Go.Av
namespace Go.Av
set_option linter.unusedSectionVars false
set_option linter.unusedVariables false
set_option linter.unusedSimpArgs false

def val (r : Int) (h : THold) : Int := if h.Replica = r ∧ h.State = 1 then h.Amount else 0
end Go.Av
namespace Go.Av
set_option linter.unusedSectionVars false
set_option linter.unusedVariables false
set_option linter.unusedSimpArgs false

def foldO {α σ : Type} (f : σ → α → Option σ) : σ → List α → Option σ
  | s, [] => some s
  | s, x :: t => match f s x with
    | none => none
    | some s' => foldO f s' t
theorem loop_foldO' {α σ ξ ρ : Type} [Inhabited α] (l : List α) {body : Int × σ → Option ((Int × σ) ⊕ (ξ ⊕ ρ))} (f : σ → α → Option σ) (out : σ → ξ) (e : ρ) (J : Nat → σ → Prop)
    (hb : ∀ i s, i < l.length → J i s → body ((i : Int), s) = some (match f s (l.getD i default) with | some s' => .inl ((((i + 1 : Nat)) : Int), s') | none => .inr (.inr e)) ∧ ∀ s', f s (l.getD i default) = some s' → J (i + 1) s')
    (hf : ∀ s, J l.length s → body ((l.length : Int), s) = some (.inr (.inl (out s)))) :
    ∀ (k i : Nat) (s : σ), i + k = l.length → J i s → ∀ n, k < n → loopM body n ((i : Int), s) = some (match foldO f s (l.drop i) with | some s => .inl (out s) | none => .inr e) ∧ ∀ s', foldO f s (l.drop i) = some s' → J l.length s'
  | k, i, s, hk, hI, 0, hn => by omega
  | 0, i, s, hk, hI, n + 1, hn => by
    obtain rfl : i = l.length := by omega
    rw [List.drop_length]
    refine ⟨by simp only [loopM, hf s hI, foldO], fun s' h => ?_⟩
    simp only [foldO, Option.some.injEq] at h
    exact h ▸ hI
  | k + 1, i, s, hk, hI, n + 1, hn => by
    have hi : i < l.length := by omega
    obtain ⟨h1, h2⟩ := hb i s hi hI
    have hd : l.drop i = l.getD i default :: l.drop (i + 1) := by rw [List.drop_eq_getElem_cons hi]; simp [List.getD, hi]
    rw [hd]
    simp only [loopM, h1, foldO]
    cases hc : f s (l.getD i default) with
    | none => exact ⟨rfl, fun s' h => by cases h⟩
    | some s' => exact loop_foldO' l f out e J hb hf k (i + 1) s' (by omega) (h2 s' hc) n (by omega)
theorem loop_foldO {α σ ξ ρ : Type} [Inhabited α] (l : List α) (hl : l.length ≤ 1000000000000000) {body : Int × σ → Option ((Int × σ) ⊕ (ξ ⊕ ρ))} (f : σ → α → Option σ) (out : σ → ξ) (e : ρ) (J : Nat → σ → Prop) {s0 : σ} (h0 : J 0 s0)
    (hb : ∀ i s, i < l.length → J i s → body ((i : Int), s) = some (match f s (l.getD i default) with | some s' => .inl ((((i + 1 : Nat)) : Int), s') | none => .inr (.inr e)) ∧ ∀ s', f s (l.getD i default) = some s' → J (i + 1) s')
    (hf : ∀ s, J l.length s → body ((l.length : Int), s) = some (.inr (.inl (out s)))) :
    loopM body fuel (0, s0) = some (match foldO f s0 l with | some s => .inl (out s) | none => .inr e) ∧ ∀ s', foldO f s0 l = some s' → J l.length s' :=
  loop_foldO' l f out e J hb hf l.length 0 s0 (by omega) h0 fuel (by have := fuel_big; omega)

def bump (x h : THold) : THold := { x with State := max x.State h.State }
def upd (l : List THold) (h : THold) : List THold := l.map fun x => if isK h.Replica h.Number x = true then bump x h else x
def fits (x h : THold) : Prop := x.Amount = h.Amount ∧ x.Due = h.Due
instance (x h : THold) : Decidable (fits x h) := by unfold fits; infer_instance
def lookH (l : List THold) (r n : Int) : Option THold := l.find? (isK r n)
def jstep (ins : List THold → THold → List THold) (m : List THold) (h : THold) : Option (List THold) :=
  match lookH m h.Replica h.Number with
  | none => some (ins m h)
  | some x => if fits x h then some (upd m h) else none

theorem isK_iff {r n : Int} {x : THold} : isK r n x = true ↔ x.Replica = r ∧ x.Number = n := by simp [isK]
theorem Off.symm {a b : THold} (h : Off a b) : Off b a := by unfold Off at *; omega
theorem off_tri {l : List THold} (h : l.Pairwise Off) {i j : Nat} (hi : i < l.length) (hj : j < l.length) (hk : ¬ Off l[i] l[j]) : i = j := by
  rw [List.pairwise_iff_getElem] at h
  rcases Nat.lt_trichotomy i j with h1 | h1 | h1
  · exact (hk (h _ _ hi hj h1)).elim
  · exact h1
  · exact (hk (h _ _ hj hi h1).symm).elim
theorem sorted_off {l : List THold} (h : l.Pairwise HLt) : l.Pairwise Off := h.imp fun {a b} k => k.off.1
theorem lookH_iff {l : List THold} (h : l.Pairwise Off) {r n : Int} {x : THold} : lookH l r n = some x ↔ x ∈ l ∧ x.Replica = r ∧ x.Number = n := by
  constructor
  · intro hx
    exact ⟨List.mem_of_find?_eq_some hx, isK_iff.1 (List.find?_some hx)⟩
  · rintro ⟨hm, h1, h2⟩
    cases hc : lookH l r n with
    | none => rw [lookH, List.find?_eq_none] at hc; exact (hc x hm (isK_iff.2 ⟨h1, h2⟩)).elim
    | some y =>
      have hy := List.mem_of_find?_eq_some hc
      have hk := isK_iff.1 (List.find?_some hc)
      obtain ⟨i, hi, rfl⟩ := List.getElem_of_mem hm
      obtain ⟨j, hj, rfl⟩ := List.getElem_of_mem hy
      have := off_tri h hi hj (fun k => k ⟨by omega, by omega⟩)
      subst this; rfl
theorem lookH_none {l : List THold} {r n : Int} : lookH l r n = none ↔ ∀ x ∈ l, ¬ (x.Replica = r ∧ x.Number = n) := by
  rw [lookH, List.find?_eq_none]
  exact ⟨fun h x hx hk => h x hx (isK_iff.2 hk), fun h x hx hk => h x hx (isK_iff.1 hk)⟩
theorem lookH_perm {l m : List THold} (hp : l.Perm m) (ho : m.Pairwise Off) (r n : Int) : lookH l r n = lookH m r n := by
  have hl : l.Pairwise Off := hp.symm.pairwise ho fun h => h.symm
  cases hc : lookH m r n with
  | none => rw [lookH_none] at hc ⊢; exact fun x hx => hc x (hp.mem_iff.1 hx)
  | some x => rw [lookH_iff ho] at hc; rw [lookH_iff hl]; exact ⟨hp.mem_iff.2 hc.1, hc.2⟩
theorem upd_off {l : List THold} (h : THold) (ho : l.Pairwise Off) : (upd l h).Pairwise Off := by
  unfold upd
  rw [List.pairwise_map]
  refine ho.imp fun {a b} k => ?_
  unfold Off at *
  split <;> split <;> exact k
theorem upd_sorted {l : List THold} (h : THold) (ho : l.Pairwise HLt) : (upd l h).Pairwise HLt := by
  unfold upd
  rw [List.pairwise_map]
  refine ho.imp fun {a b} k => ?_
  unfold HLt at *
  split <;> split <;> exact k
theorem upd_set {l : List THold} (ho : l.Pairwise Off) {h : THold} {j : Nat} (hj : j < l.length) (hk : isK h.Replica h.Number (l.getD j default) = true) : l.set j (bump (l.getD j default) h) = upd l h ∧ lookH l h.Replica h.Number = some (l.getD j default) := by
  have e : l.getD j default = l[j] := by simp [List.getD, hj]
  rw [e] at hk ⊢
  refine ⟨?_, (lookH_iff ho).2 ⟨List.getElem_mem hj, isK_iff.1 hk⟩⟩
  apply List.ext_getElem (by simp [upd])
  intro i h1 h2
  simp only [List.getElem_set, upd, List.getElem_map]
  by_cases hij : j = i
  · subst hij; rw [if_pos rfl, if_pos hk]
  · rw [if_neg hij, if_neg]
    intro hk2
    refine hij (off_tri ho hj (by simpa using h1) fun k => k ?_)
    have := isK_iff.1 hk; have := isK_iff.1 hk2; omega

theorem jstep_perm {l m : List THold} (hp : l.Perm m) (ho : m.Pairwise Off) (h : THold) : (jstep (fun l h => l ++ [h]) l h = none ∧ jstep putS m h = none) ∨ ∃ l' m', jstep (fun l h => l ++ [h]) l h = some l' ∧ jstep putS m h = some m' ∧ l'.Perm m' := by
  unfold jstep
  rw [lookH_perm hp ho]
  cases lookH m h.Replica h.Number with
  | none => exact .inr ⟨_, _, rfl, rfl, (List.perm_append_comm.trans (hp.cons h)).trans (putS_perm h m).symm⟩
  | some x =>
    simp only
    by_cases hf : fits x h
    · rw [if_pos hf, if_pos hf]; exact .inr ⟨_, _, rfl, rfl, hp.map _⟩
    · rw [if_neg hf, if_neg hf]; exact .inl ⟨rfl, rfl⟩
theorem jstep_sorted {m m' : List THold} {h : THold} (hm : m.Pairwise HLt) (hj : jstep putS m h = some m') : m'.Pairwise HLt := by
  unfold jstep at hj
  cases hc : lookH m h.Replica h.Number with
  | none =>
    rw [hc] at hj; simp only [Option.some.injEq] at hj; subst hj
    exact putS_sorted h m hm fun x hx hk => lookH_none.1 hc x hx hk
  | some x =>
    rw [hc] at hj; simp only at hj
    split at hj
    · simp only [Option.some.injEq] at hj; subst hj; exact upd_sorted h hm
    · cases hj
theorem fold_perm : ∀ (b : List THold) {l m : List THold}, l.Perm m → m.Pairwise HLt → (foldO (jstep fun l h => l ++ [h]) l b = none ∧ foldO (jstep putS) m b = none) ∨ ∃ l' m', foldO (jstep fun l h => l ++ [h]) l b = some l' ∧ foldO (jstep putS) m b = some m' ∧ l'.Perm m' ∧ m'.Pairwise HLt
  | [], l, m, hp, hm => .inr ⟨l, m, rfl, rfl, hp, hm⟩
  | h :: b, l, m, hp, hm => by
    rcases jstep_perm hp (sorted_off hm) h with ⟨h1, h2⟩ | ⟨l', m', h1, h2, h3⟩
    · exact .inl ⟨by simp only [foldO, h1], by simp only [foldO, h2]⟩
    · simp only [foldO, h1, h2]
      exact fold_perm b h3 (jstep_sorted hm h2)

def Jn (a b : List THold) : Option (List THold) := foldO (jstep putS) a b
def JS (a b : List THold) : List THold × Int :=
  if Rts a ∧ Rts b then (match Jn a b with
    | none => ([], 1)
    | some m => if 16 < m.length then ([], 7) else (m, 0))
  else ([], 1)

theorem jstep_len {ins : List THold → THold → List THold} (hi : ∀ l h, (ins l h).length = l.length + 1) {m m' : List THold} {h : THold} (hj : jstep ins m h = some m') : m'.length ≤ m.length + 1 := by
  unfold jstep at hj
  split at hj
  · simp only [Option.some.injEq] at hj; subst hj; rw [hi]; omega
  · split at hj
    · simp only [Option.some.injEq] at hj; subst hj; simp [upd]
    · cases hj

/-- The inner loop: where the key stands. -/
theorem ref_L2 (b s : List THold) (i : Nat) (hi : i < b.length) (hb : i < 1000000000000) (hs : s.length ≤ 1000000000000) (ho : s.Pairwise Off) : ∃ z, loopM (usufructref06_Join_L2 b ((i : Int), s)) fuel (0, -1) = some z ∧ ((z.2.2.2 = -1 ∧ lookH s (b.getD i default).Replica (b.getD i default).Number = none) ∨ ∃ j : Nat, z.2.2.2 = (j : Int) ∧ j < s.length ∧ isK (b.getD i default).Replica (b.getD i default).Number (s.getD j default) = true) := by
  refine loopM_ind (fun k t => t.1 = (k : Int) ∧ ((t.2 = -1 ∧ ∀ j, j < k → isK (b.getD i default).Replica (b.getD i default).Number (s.getD j default) = false) ∨ ∃ j : Nat, t.2 = (j : Int) ∧ j < k ∧ isK (b.getD i default).Replica (b.getD i default).Number (s.getD j default) = true)) s.length (by omega) _ ?_ ?_ ⟨rfl, .inl ⟨rfl, fun j h => by omega⟩⟩
  · rintro k ⟨t1, t2⟩ hk ⟨h1, hI⟩
    simp only at h1 hI
    subst h1
    refine .inl ?_
    simp only [usufructref06_Join_L2, six_of hk, six_of hi, letM_eq, Option.bind]
    rw [if_pos (by simp; omega)]
    simp only [wr_succ (show k < 1000000000000000 by omega)]
    have hg : ∀ b : Bool, gd (b = true) (some k) = some (if b = true then k else default) := fun b => by cases b <;> rfl
    have hg2 : ∀ b : Bool, gd (b = true) (some i) = some (if b = true then i else default) := fun b => by cases b <;> rfl
    simp only [hg, hg2]
    by_cases hR : (s.getD k default).Replica = (b.getD i default).Replica
    · simp only [hR, decide_true, if_true, Bool.true_and]
      by_cases hN : (s.getD k default).Number = (b.getD i default).Number
      · rw [if_pos (by simpa only [decide_eq_true_eq] using hN)]
        exact ⟨_, rfl, rfl, .inr ⟨k, rfl, by omega, isK_iff.2 ⟨hR, hN⟩⟩⟩
      · rw [if_neg (by simpa only [decide_eq_true_eq] using hN)]
        refine ⟨_, rfl, rfl, ?_⟩
        rcases hI with ⟨e, hI⟩ | ⟨j, e, hj, hI⟩
        · refine .inl ⟨e, fun j hj => ?_⟩
          rcases Nat.lt_succ_iff_lt_or_eq.1 hj with h | rfl
          · exact hI j h
          · exact Bool.eq_false_iff.2 fun h => hN (isK_iff.1 h).2
        · exact .inr ⟨j, e, by omega, hI⟩
    · simp only [hR, decide_false, Bool.false_and]
      rw [if_neg Bool.false_ne_true]
      refine ⟨_, rfl, rfl, ?_⟩
      rcases hI with ⟨e, hI⟩ | ⟨j, e, hj, hI⟩
      · refine .inl ⟨e, fun j hj => ?_⟩
        rcases Nat.lt_succ_iff_lt_or_eq.1 hj with h | rfl
        · exact hI j h
        · exact Bool.eq_false_iff.2 fun h => hR (isK_iff.1 h).1
      · exact .inr ⟨j, e, by omega, hI⟩
  · rintro ⟨t1, t2⟩ ⟨h1, hI⟩
    simp only at h1 hI
    subst h1
    refine ⟨_, by simp only [usufructref06_Join_L2]; rw [if_neg (by simp)], ?_⟩
    rcases hI with ⟨e, hI⟩ | hI
    · refine .inl ⟨e, lookH_none.2 fun x hx hk => ?_⟩
      obtain ⟨j, hj, rfl⟩ := List.getElem_of_mem hx
      have := hI j hj
      rw [show s.getD j default = s[j] by simp [List.getD, hj], isK_iff.2 hk] at this
      cases this
    · exact .inr hI

theorem ref_Join_eq (a b : List THold) (ha : a.length ≤ 1000000) (hb : b.length ≤ 1000000) : usufructref06_Join a b = some (JS a b) := by
  unfold usufructref06_Join JS
  rw [ref_Rights_eq a (by omega)]
  simp only [Option.bind]
  by_cases h1 : Rts a
  · rw [gd_t (by simp [h1]), ref_Rights_eq b (by omega)]
    simp only []
    by_cases h2 : Rts b
    · rw [if_neg (by simp [h1, h2]), if_pos ⟨h1, h2⟩, app_of (by simp; omega)]
      simp only [List.nil_append]
      rw [(loop_foldO b (by omega) (jstep putS) id (([] : List THold), (1 : Int)) (fun i s => s.Pairwise HLt ∧ s.length ≤ a.length + i) ⟨h1.2.1, by omega⟩ (fun i s hi hJ => ⟨?_, fun s' hs => ⟨jstep_sorted hJ.1 hs, by have := jstep_len (fun l h => putS_length h l) hs; omega⟩⟩) (fun s hs => by simp [usufructref06_Join_L1])).1]
      · unfold Jn
        cases foldO (jstep putS) a b with
        | none => rfl
        | some m =>
          simp only [onS_l, id]
          by_cases h16 : 16 < m.length
          · rw [if_pos (by simp; omega), if_pos h16]
          · rw [if_neg (by simp; omega), if_neg h16]
      · have ho := sorted_off hJ.1
        obtain ⟨z, hz, hcase⟩ := ref_L2 b s i hi (by omega) (by omega) ho
        simp only [usufructref06_Join_L1, six_of hi, letM_eq, Option.bind]
        rw [if_pos (by simp; omega), hz]
        simp only [wr_succ (show i < 1000000000000000 by omega)]
        rcases hcase with ⟨e, hl⟩ | ⟨j, e, hj, hk⟩
        · rw [if_pos (by rw [e]; rfl), Put_own_eq _ _ (by omega)]
          simp only [jstep, hl]
        · obtain ⟨u1, u2⟩ := upd_set ho hj hk
          rw [if_neg (by rw [e]; simp), e]
          simp only [six_of hj, jstep, u2]
          by_cases hA : (s.getD j default).Amount = (b.getD i default).Amount
          · rw [gd_t (by rw [decide_eq_true hA]; rfl)]
            simp only []
            rw [gd_t (by rw [decide_eq_true hA]; rfl)]
            simp only []
            by_cases hD : (s.getD j default).Due = (b.getD i default).Due
            · rw [if_neg (by rw [decide_eq_true hA, decide_eq_true hD]; decide), if_pos ⟨hA, hD⟩, ← u1]
              rfl
            · rw [if_pos (by rw [decide_eq_false hD]; simp), if_neg (fun x => hD x.2)]
          · rw [gd_f (by rw [decide_eq_false hA]; decide)]
            simp only []
            rw [gd_f (by rw [decide_eq_false hA]; decide)]
            simp only []
            rw [if_pos (by rw [decide_eq_false hA]; rfl), if_neg (fun x => hA x.1)]
    · rw [if_pos (by simp [h2]), if_neg (fun x => h2 x.2)]
  · rw [gd_f (by simp [h1]), if_neg (fun x => h1 x.1)]
    simp [h1]
end Go.Av
namespace Go.Av
set_option linter.unusedSectionVars false
set_option linter.unusedVariables false
set_option linter.unusedSimpArgs false

theorem findK_putK {K α : Type} [DecidableEq K] (k q : K) (a : α) : ∀ l : List (K × α), findK q (putK k a l) = if k = q then some a else findK q l
  | [] => by simp [putK, findK]
  | p :: r => by
    unfold putK
    by_cases h : p.1 = k
    · rw [if_pos h]
      unfold findK
      by_cases hq : k = q
      · rw [if_pos hq]; simp [hq]
      · rw [if_neg hq, if_neg hq, if_neg (by rw [h]; exact hq)]
    · rw [if_neg h]
      unfold findK
      rw [findK_putK k q a r]
      by_cases hq : k = q
      · rw [if_neg (by rw [← hq]; exact h), if_pos hq]; simp [hq]
      · rw [if_neg hq, if_neg hq]

def keyH (h : THold) : Vector Int 2 := #v[h.Replica, h.Number]
theorem keyH_eq {a b : THold} : keyH a = keyH b ↔ a.Replica = b.Replica ∧ a.Number = b.Number := by
  constructor
  · intro h
    have h0 : (keyH a).get 0 = (keyH b).get 0 := by rw [h]
    have h1 : (keyH a).get 1 = (keyH b).get 1 := by rw [h]
    exact ⟨h0, h1⟩
  · rintro ⟨h1, h2⟩
    unfold keyH; rw [h1, h2]
theorem keyH_ok {h : THold} (hh : HOk h) : okInts (keyH h) = true := by
  unfold HOk at hh
  have e1 : inI64 h.Replica = true := by simp only [inI64, decide_eq_true_eq]; omega
  have e2 : inI64 h.Number = true := by simp only [inI64, decide_eq_true_eq]; omega
  simp [okInts, keyH, e1, e2]

def MapOf (a : List THold) (i : Nat) (m : AMap (Vector Int 2) Int okInts) : Prop :=
  (∀ j, j < i → findK (keyH (a.getD j default)) m.es = some (j : Int)) ∧ ∀ k v, findK k m.es = some v → ∃ j : Nat, j < i ∧ v = (j : Int) ∧ keyH (a.getD j default) = k
theorem sorted_at {a : List THold} (h : a.Pairwise HLt) {i j : Nat} (hi : i < a.length) (hj : j < a.length) (hk : (a.getD i default).Replica = (a.getD j default).Replica ∧ (a.getD i default).Number = (a.getD j default).Number) : i = j := by
  rw [show a.getD i default = a[i] by simp [List.getD, hi], show a.getD j default = a[j] by simp [List.getD, hj]] at hk
  exact off_tri (sorted_off h) hi hj fun k => k hk
theorem map_loop (a : List THold) (ha : Rts a) : ∃ m, loopM (hold_Join_L1 a) fuel (0, AMap.empty) = some m ∧ MapOf a a.length m := by
  have hlen := ha.2.2
  refine loopM_ind (fun i s => s.1 = (i : Int) ∧ MapOf a i s.2) a.length (by omega) _ ?_ ?_ ⟨rfl, fun j h => by omega, fun k v h => by simp [AMap.empty, findK] at h⟩
  · rintro i ⟨s1, m⟩ hi ⟨h1, hI, hI2⟩
    simp only at h1 hI hI2
    subst h1
    refine .inl ?_
    have hok : HOk (a.getD i default) := ha.1 _ (by simp [List.getD, hi])
    simp only [hold_Join_L1, six_of hi, letM_eq, Option.bind]
    rw [if_pos (by simp; omega)]
    have hk := keyH_ok hok
    rw [show (#v[(a.getD i default).Replica, (a.getD i default).Number] : Vector Int 2) = keyH (a.getD i default) from rfl]
    unfold AMap.put
    rw [dif_pos hk]
    refine ⟨_, rfl, wr_succ (by omega), fun j hj => ?_, fun k v hv => ?_⟩
    · simp only
      rw [findK_putK]
      rcases Nat.lt_succ_iff_lt_or_eq.1 hj with h | rfl
      · rw [if_neg (fun h3 => by have := sorted_at ha.2.1 hi (by omega) (keyH_eq.1 h3); omega)]
        exact hI j h
      · rw [if_pos rfl]
    · simp only at hv
      rw [findK_putK] at hv
      split at hv
      · rename_i he
        simp only [Option.some.injEq] at hv
        exact ⟨i, by omega, hv.symm, he⟩
      · obtain ⟨j, h1, h2, h3⟩ := hI2 k v hv
        exact ⟨j, by omega, h2, h3⟩
  · rintro ⟨s1, m⟩ ⟨h1, hI⟩
    simp only at h1 hI
    subst h1
    exact ⟨m, by simp [hold_Join_L1], hI⟩

theorem upd_key (s : List THold) (h : THold) (j : Nat) : ((upd s h).getD j default).Replica = (s.getD j default).Replica ∧ ((upd s h).getD j default).Number = (s.getD j default).Number := by
  unfold upd
  rw [List.getD, List.getD, List.getElem?_map]
  cases s[j]? with
  | none => exact ⟨rfl, rfl⟩
  | some x => simp only [Option.map_some, Option.getD_some]; split <;> exact ⟨rfl, rfl⟩
def InvJ (a b : List THold) (i : Nat) (s : List THold) : Prop :=
  s.Pairwise Off ∧ a.length ≤ s.length ∧ s.length ≤ a.length + i ∧ (∀ j, j < a.length → (s.getD j default).Replica = (a.getD j default).Replica ∧ (s.getD j default).Number = (a.getD j default).Number) ∧
    ∀ j, a.length ≤ j → j < s.length → ∃ q, q < i ∧ (s.getD j default).Replica = (b.getD q default).Replica ∧ (s.getD j default).Number = (b.getD q default).Number

theorem InvJ.step {a b s s' : List THold} {i : Nat} (hJ : InvJ a b i s) (hi : i < b.length) (hs : jstep (fun l h => l ++ [h]) s (b.getD i default) = some s') : InvJ a b (i + 1) s' := by
  obtain ⟨h1, h2, h3, h4, h5⟩ := hJ
  unfold jstep at hs
  cases hl : lookH s (b.getD i default).Replica (b.getD i default).Number with
  | none =>
    rw [hl] at hs; simp only [Option.some.injEq] at hs; subst hs
    have hn := lookH_none.1 hl
    refine ⟨?_, by simp; omega, by simp; omega, fun j hj => ?_, fun j hj hj2 => ?_⟩
    · rw [List.pairwise_append]
      refine ⟨h1, by simp, fun x hx y hy => ?_⟩
      rw [List.mem_singleton.1 hy]
      exact fun k => hn x hx k
    · rw [show (s ++ [b.getD i default]).getD j default = s.getD j default by rw [List.getD, List.getElem?_append_left (by omega)]; rfl]
      exact h4 j hj
    · by_cases hj3 : j < s.length
      · rw [show (s ++ [b.getD i default]).getD j default = s.getD j default by rw [List.getD, List.getElem?_append_left hj3]; rfl]
        obtain ⟨q, h6, h7⟩ := h5 j hj hj3
        exact ⟨q, by omega, h7⟩
      · simp only [List.length_append, List.length_singleton] at hj2
        obtain rfl : j = s.length := by omega
        rw [show (s ++ [b.getD i default]).getD s.length default = b.getD i default by rw [List.getD, List.getElem?_append_right (Nat.le_refl _), Nat.sub_self]; rfl]
        exact ⟨i, by omega, rfl, rfl⟩
  | some x =>
    rw [hl] at hs; simp only at hs
    split at hs
    · simp only [Option.some.injEq] at hs; subst hs
      have hle : (upd s (b.getD i default)).length = s.length := by simp only [upd, List.length_map]
      refine ⟨upd_off _ h1, by omega, by omega, fun j hj => ?_, fun j hj hj2 => ?_⟩
      · rw [(upd_key s _ j).1, (upd_key s _ j).2]; exact h4 j hj
      · obtain ⟨q, h6, h7⟩ := h5 j hj (by omega)
        exact ⟨q, by omega, by rw [(upd_key s _ j).1, (upd_key s _ j).2]; exact h7⟩
    · cases hs

theorem hold_Join_eq (a b : List THold) (ha : a.length ≤ 1000000) (hb : b.length ≤ 1000000) : hold_Join a b = some (JS a b) := by
  unfold hold_Join JS
  rw [hold_Rights_eq a (by omega)]
  simp only [Option.bind]
  by_cases h1 : Rts a
  · rw [gd_t (by simp [h1]), hold_Rights_eq b (by omega)]
    simp only []
    by_cases h2 : Rts b
    · rw [if_neg (by simp [h1, h2]), if_pos ⟨h1, h2⟩, app_of (by simp; omega)]
      simp only [List.nil_append]
      obtain ⟨m, hm, hM1, hM2⟩ := map_loop a h1
      rw [hm]
      simp only []
      have hbl := h2.2.2
      have hinv0 : InvJ a b 0 a := ⟨sorted_off h1.2.1, by omega, by omega, fun j _ => ⟨rfl, rfl⟩, fun j hj hj2 => by omega⟩
      have key := loop_foldO (body := hold_Join_L2 b m) b (by omega) (jstep fun l h => l ++ [h]) id (([] : List THold), (1 : Int)) (InvJ a b) hinv0 (fun i s hi hJ => ⟨?_, fun s' hs => hJ.step hi hs⟩) (fun s hs => by simp [hold_Join_L2])
      · rw [key.1]
        unfold Jn
        rcases fold_perm b (List.Perm.refl a) h1.2.1 with ⟨e1, e2⟩ | ⟨l', m', e1, e2, e3, e4⟩
        · rw [e1, e2]; rfl
        · rw [e1, e2]
          have hln : l'.length = m'.length := e3.length_eq
          have hl3 := (key.2 l' e1).2.2.1
          simp only [onS_l, id]
          by_cases h16 : 16 < m'.length
          · rw [if_pos (by simp; omega), if_pos h16]
          · rw [if_neg (by simp; omega), if_neg h16]
            simp only [sortM]
            rw [if_pos (by omega), sort_uniq e3 e4]
      · obtain ⟨g1, g2, g3, g4, g5⟩ := hJ
        have hok : HOk (b.getD i default) := h2.1 _ (by simp [List.getD, hi])
        have hk := keyH_ok hok
        simp only [hold_Join_L2, six_of hi, letM_eq, Option.bind]
        rw [if_pos (by simp; omega)]
        rw [show (#v[(b.getD i default).Replica, (b.getD i default).Number] : Vector Int 2) = keyH (b.getD i default) from rfl]
        simp only [AMap.get]
        rw [if_pos hk]
        simp only [wr_succ (show i < 1000000000000000 by omega)]
        cases hf : findK (keyH (b.getD i default)) m.es with
        | none =>
          have hl : lookH s (b.getD i default).Replica (b.getD i default).Number = none := by
            rw [lookH_none]
            intro x hx hxk
            obtain ⟨j, hj, rfl⟩ := List.getElem_of_mem hx
            have e : s.getD j default = s[j] := by simp [List.getD, hj]
            rw [← e] at hxk
            by_cases hja : j < a.length
            · have h6 := g4 j hja
              have h7 := hM1 j hja
              rw [show keyH (a.getD j default) = keyH (b.getD i default) from keyH_eq.2 ⟨by omega, by omega⟩, hf] at h7
              cases h7
            · obtain ⟨q, h6, h7⟩ := g5 j (by omega) hj
              have := sorted_at h2.2.1 (i := q) (j := i) (by omega) hi ⟨by omega, by omega⟩
              omega
          rw [if_pos (by rfl), app_of (by simp; omega)]
          simp only [jstep, hl]
        | some v =>
          obtain ⟨j, hj, rfl, hjk⟩ := hM2 _ v hf
          have hjk := keyH_eq.1 hjk
          have h6 := g4 j hj
          have hjs : j < s.length := by omega
          obtain ⟨u1, u2⟩ := upd_set g1 hjs (isK_iff.2 ⟨by omega, by omega⟩ : isK (b.getD i default).Replica (b.getD i default).Number (s.getD j default) = true)
          rw [if_neg (by simp)]
          simp only [Option.getD_some, six_of hjs, jstep, u2]
          by_cases hA : (s.getD j default).Amount = (b.getD i default).Amount
          · rw [gd_t (by rw [decide_eq_true hA]; rfl)]
            simp only []
            by_cases hD : (s.getD j default).Due = (b.getD i default).Due
            · rw [if_neg (by rw [decide_eq_true hA, decide_eq_true hD]; decide), if_pos ⟨hA, hD⟩, ← u1]
              rfl
            · rw [if_pos (by rw [decide_eq_false hD]; simp), if_neg (fun x => hD x.2)]
          · rw [gd_f (by rw [decide_eq_false hA]; decide)]
            simp only []
            rw [if_pos (by rw [decide_eq_false hA]; rfl), if_neg (fun x => hA x.1)]
    · rw [if_pos (by simp [h2]), if_neg (fun x => h2 x.2)]
  · rw [gd_f (by simp [h1]), if_neg (fun x => h1 x.1)]
    simp [h1]

theorem JS_len (a b : List THold) : (JS a b).1.length ≤ 16 := by
  unfold JS
  split
  · split
    · simp
    · split
      · simp
      · simp only; omega
  · simp
end Go.Av
namespace Go.Av
set_option linter.unusedSectionVars false
set_option linter.unusedVariables false
set_option linter.unusedSimpArgs false

def cf : Option THold → Option THold → Prop
  | some x, some y => ¬ fits x y
  | _, _ => False
theorem fits.symm {x y : THold} (h : fits x y) : fits y x := ⟨h.1.symm, h.2.symm⟩

end Go.Av
namespace Go.Av
set_option linter.unusedSectionVars false
set_option linter.unusedVariables false
set_option linter.unusedSimpArgs false

theorem checked_eq (a : Int) (l : List Int) (hl : l.length ≤ 1000000000000) : num_checked a l = some (if ∀ x ∈ l ++ [a], IsN x then (a, 0) else (0, 2)) := by
  unfold num_checked
  rw [app_of (by simp; omega)]
  simp only [Option.bind]
  have hn : (l ++ [a]).length ≤ 1000000000000000 := by simp; omega
  generalize l ++ [a] = m at hn
  rw [loop_all m.length hn (fun i => IsN (m.getD i default)) (0, 2) () (fun i hi => ?_) (by simp [num_checked_L1])]
  · by_cases h : ∀ x ∈ m, IsN x
    · rw [if_pos (fun i hi => h _ (by simp [List.getD, hi])), if_pos h]; rfl
    · rw [if_neg (fun h2 => h fun x hx => by obtain ⟨i, hi, rfl⟩ := List.getElem_of_mem hx; simpa [List.getD, hi] using h2 i hi), if_neg h]; rfl
  · simp only [num_checked_L1, six_of hi, num_Is_eq, Option.bind]
    rw [if_pos (by simp; omega)]
    simp only [wr_succ (show i < 1000000000000000 by omega)]
    by_cases h : IsN (m.getD i default)
    · rw [if_neg (by rw [decide_eq_true h]; decide), if_pos h]
    · rw [if_pos (by rw [decide_eq_false h]; rfl), if_neg h]

def addS (a b : Int) : Int × Int := if IsN a ∧ IsN b ∧ IsN (a + b) then (a + b, 0) else (0, 2)
theorem num_Add_eq (a b : Int) : num_Add a b = some (addS a b) := by
  unfold num_Add addS
  rw [checked_eq _ _ (by simp)]
  simp only [Option.bind]
  by_cases h : IsN a ∧ IsN b
  · have hw : wr .i64 (a + b) = a + b := wr_id (by unfold IsN at h; omega)
    rw [hw]
    by_cases h2 : IsN (a + b)
    · rw [if_pos (by simp [h.1, h.2, h2]), if_pos ⟨h.1, h.2, h2⟩]
    · rw [if_neg (by simp [h.1, h.2, h2]), if_neg (fun x => h2 x.2.2)]
  · rw [if_neg (fun x => h ⟨x a (by simp), x b (by simp)⟩), if_neg (fun x => h ⟨x.1, x.2.1⟩)]
theorem ref_Add_eq (a b : Int) : usufructref01_Add a b = some (addS a b) := by
  unfold usufructref01_Add addS
  simp only [ref_Is_eq, Option.bind]
  by_cases h1 : IsN a
  · rw [gd_t (by rw [decide_eq_true h1]; rfl)]
    simp only []
    by_cases h2 : IsN b
    · have hw : wr .i64 (a + b) = a + b := wr_id (by unfold IsN at h1 h2; omega)
      rw [hw, gd_t (by rw [decide_eq_true h1, decide_eq_true h2]; rfl)]
      simp only []
      by_cases h3 : IsN (a + b)
      · rw [if_neg (by rw [decide_eq_true h1, decide_eq_true h2, decide_eq_true h3]; decide), if_pos ⟨h1, h2, h3⟩]
      · rw [if_pos (by rw [decide_eq_false h3]; simp), if_neg (fun x => h3 x.2.2)]
    · rw [gd_f (by rw [decide_eq_false h2]; simp)]
      simp only []
      rw [if_pos (by rw [decide_eq_false h2]; simp), if_neg (fun x => h2 x.2.1)]
  · rw [gd_f (by rw [decide_eq_false h1]; decide)]
    simp only []
    rw [gd_f (by rw [decide_eq_false h1]; simp)]
    simp only []
    rw [if_pos (by rw [decide_eq_false h1]; simp), if_neg (fun x => h1 x.1)]

/-- All, added; none, if it is too great on the way. -/
def sumO : Int → List Int → Option Int
  | n, [] => some n
  | n, x :: t => if (addS n x).2 = 0 then sumO (addS n x).1 t else none
def sumS (l : List Int) : Int × Int := match sumO 0 l with | some n => (n, 0) | none => (0, 2)
theorem addS_err (a b : Int) (h : (addS a b).2 ≠ 0) : (addS a b).2 = 2 := by
  by_cases hc : IsN a ∧ IsN b ∧ IsN (a + b)
  · rw [addS, if_pos hc] at h; exact (h rfl).elim
  · rw [addS, if_neg hc]
theorem sum_loop' (l : List Int) {ρ : Type} {body : Int × Int → Option ((Int × Int) ⊕ ρ)} (fin : Int → Option ρ) (er : Option ρ)
    (hb : ∀ (i : Nat) (n : Int), i < l.length → body ((i : Int), n) = if (addS n (l.getD i default)).2 = 0 then some (.inl ((((i + 1 : Nat)) : Int), (addS n (l.getD i default)).1)) else er.map .inr) (hf : ∀ n, body ((l.length : Int), n) = (fin n).map .inr) :
    ∀ (k i : Nat) (n : Int), i + k = l.length → ∀ m, k < m → loopM body m ((i : Int), n) = match sumO n (l.drop i) with | some n => fin n | none => er
  | k, i, n, hk, 0, hm => by omega
  | 0, i, n, hk, m + 1, hm => by
    obtain rfl : i = l.length := by omega
    rw [List.drop_length]
    simp only [loopM, hf, sumO]
    cases fin n <;> rfl
  | k + 1, i, n, hk, m + 1, hm => by
    have hi : i < l.length := by omega
    have hd : l.drop i = l.getD i default :: l.drop (i + 1) := by rw [List.drop_eq_getElem_cons hi]; simp [List.getD, hi]
    rw [hd, sumO]
    simp only [loopM, hb i n hi]
    by_cases h : (addS n (l.getD i default)).2 = 0
    · rw [if_pos h, if_pos h]
      exact sum_loop' l fin er hb hf k (i + 1) _ (by omega) m (by omega)
    · rw [if_neg h, if_neg h]
      cases er <;> rfl
theorem sum_loop (l : List Int) (hl : l.length ≤ 1000000000000) {ρ : Type} {body : Int × Int → Option ((Int × Int) ⊕ ρ)} (fin : Int → Option ρ) (er : Option ρ)
    (hb : ∀ (i : Nat) (n : Int), i < l.length → body ((i : Int), n) = if (addS n (l.getD i default)).2 = 0 then some (.inl ((((i + 1 : Nat)) : Int), (addS n (l.getD i default)).1)) else er.map .inr) (hf : ∀ n, body ((l.length : Int), n) = (fin n).map .inr) :
    loopM body fuel (0, 0) = match sumO 0 l with | some n => fin n | none => er :=
  sum_loop' l fin er hb hf l.length 0 0 (by omega) fuel (by have := fuel_big; omega)
theorem ref_Sum_eq1 (l : List Int) (hl : l.length ≤ 1000000000000) : usufructref01_Sum l = some (sumS l) := by
  unfold usufructref01_Sum sumS
  rw [sum_loop l hl (fun n => some (.inl n : Int ⊕ (Int × Int))) (some (.inr (0, 2))) (fun i n hi => ?_) (fun n => by simp [usufructref01_Sum_L1])]
  · cases sumO 0 l <;> rfl
  · simp only [usufructref01_Sum_L1, six_of hi, ref_Add_eq, Option.bind]
    rw [if_pos (by simp; omega)]
    simp only [wr_succ (show i < 1000000000000000 by omega)]
    by_cases h : (addS n (l.getD i default)).2 = 0
    · rw [if_neg (by rw [decide_eq_true h]; decide), if_pos h]
    · rw [if_pos (by rw [decide_eq_false h]; rfl), if_neg h, addS_err _ _ h]; rfl
theorem num_Sum_eq (l : List Int) (hl : l.length ≤ 1000000000000) : num_Sum l = some (sumS l) := by
  have h1 : num_Sum_1 l = sumO 0 l := by
    unfold num_Sum_1
    rw [sum_loop l hl (fun n => some n) none (fun i n hi => ?_) (fun n => by simp [num_Sum_1_L1])]
    · cases sumO 0 l <;> rfl
    · simp only [num_Sum_1_L1, six_of hi, num_Add_eq, num_Must, Option.bind]
      rw [if_pos (by simp; omega)]
      simp only [wr_succ (show i < 1000000000000000 by omega)]
      by_cases h : (addS n (l.getD i default)).2 = 0
      · rw [if_neg (by rw [decide_eq_true h]; decide), if_pos h]
      · rw [if_pos (by rw [decide_eq_false h]; rfl), if_neg h]; rfl
  have h2 : num_Sum_P l = match sumO 0 l with | some _ => none | none => some 2 := by
    unfold num_Sum_P
    rw [sum_loop l hl (fun n => none) (some 2) (fun i n hi => ?_) (fun n => by simp [num_Sum_P_L1])]
    simp only [num_Sum_P_L1, six_of hi, num_Add_eq, Option.bind]
    rw [if_pos (by simp; omega)]
    simp only [wr_succ (show i < 1000000000000000 by omega)]
    by_cases h : (addS n (l.getD i default)).2 = 0
    · rw [if_pos (by rw [decide_eq_true h]), if_pos h]
    · rw [if_neg (by rw [decide_eq_false h]; decide), if_neg h, addS_err _ _ h]; rfl
  unfold num_Sum sumS
  rw [h1, h2]
  cases sumO 0 l <;> rfl
end Go.Av
namespace Go.Av
set_option linter.unusedSectionVars false
set_option linter.unusedVariables false
set_option linter.unusedSimpArgs false

def VOk (v : Vector Int 16) : Prop := ∀ k : Fin 16, 0 ≤ v.get k ∧ v.get k ≤ 1099511627776
instance (v : Vector Int 16) : Decidable (VOk v) := by unfold VOk; infer_instance
def at16 (v : Vector Int 16) (i : Nat) : Int := if h : i < 16 then v.get ⟨i, h⟩ else 0
theorem VOk_iff (v : Vector Int 16) : (∀ i, i < 16 → 0 ≤ at16 v i ∧ at16 v i ≤ 1099511627776) ↔ VOk v := by
  constructor
  · intro h k
    have := h k.1 k.2
    unfold at16 at this
    rw [dif_pos k.2] at this
    exact this
  · intro h i hi
    unfold at16
    rw [dif_pos hi]
    exact h ⟨i, hi⟩
theorem ref02_Right_eq (v : Vector Int 16) : usufructref02_Right v = some (decide (VOk v)) := by
  unfold usufructref02_Right
  rw [loop_all 16 (by omega) (fun i => 0 ≤ at16 v i ∧ at16 v i ≤ 1099511627776) false () (fun i hi => ?_) (by simp [usufructref02_Right_L1])]
  · by_cases h : VOk v
    · rw [if_pos ((VOk_iff v).2 h), decide_eq_true h]; rfl
    · rw [if_neg (fun k => h ((VOk_iff v).1 k)), decide_eq_false h]; rfl
  · have e : at16 v i = v.get ⟨i, hi⟩ := by unfold at16; rw [dif_pos hi]
    simp only [usufructref02_Right_L1, fix_of hi, Option.bind, e]
    rw [if_pos (by simp; omega)]
    simp only [wr_succ (show i < 1000000000000000 by omega)]
    by_cases h1 : v.get ⟨i, hi⟩ < 0
    · rw [gd_f (by rw [decide_eq_true h1]; decide)]
      simp only []
      rw [if_pos (by rw [decide_eq_true h1]; rfl), if_neg (by omega)]
    · rw [gd_t (by rw [decide_eq_false h1])]
      simp only []
      by_cases h2 : 1099511627776 < v.get ⟨i, hi⟩
      · rw [if_pos (by rw [decide_eq_true h2]; simp), if_neg (by omega)]
      · rw [if_neg (by rw [decide_eq_false h1, decide_eq_false h2]; decide), if_pos (by omega)]
theorem ref02_Sum_eq (v : Vector Int 16) : usufructref02_Sum v = some (sumS v.toList) := by
  unfold usufructref02_Sum
  rw [ref_Sum_eq1 _ (by simp)]; rfl

def ROk (r : TRights) : Prop := VOk r.Given ∧ VOk r.Used ∧ ∀ k : Fin 16, VOk (r.Moved.get k) ∧ (r.Moved.get k).get k = 0
instance (r : TRights) : Decidable (ROk r) := by unfold ROk; infer_instance
def row (r : TRights) (i : Nat) : Prop := ∀ h : i < 16, VOk (r.Moved.get ⟨i, h⟩) ∧ (r.Moved.get ⟨i, h⟩).get ⟨i, h⟩ = 0
instance (r : TRights) (i : Nat) : Decidable (row r i) := by unfold row; infer_instance
theorem ref03_Right_eq (r : TRights) : usufructref03_Right r = some (decide (ROk r)) := by
  unfold usufructref03_Right
  rw [ref02_Right_eq, ref02_Right_eq]
  have hb : ∀ b : Bool, loopM (usufructref03_Right_L1 r) fuel (0, b) = some (b && decide (∀ i : Nat, i < 16 → row r i)) := fun b => by
    refine loopM_eq (fun i s => s = ((i : Int), b && decide (∀ j, j < i → row r j))) 16 (by omega) _ ?_ ?_ (by simp)
    · rintro i s hi rfl
      refine .inl ⟨_, ?_, rfl⟩
      have hsucc : (∀ j, j < i + 1 → row r j) ↔ (∀ j, j < i → row r j) ∧ row r i :=
        ⟨fun h => ⟨fun j hj => h j (by omega), h i (by omega)⟩, fun h j hj => by rcases Nat.lt_succ_iff_lt_or_eq.1 hj with h2 | rfl; exact h.1 j h2; exact h.2⟩
      have hrow : row r i ↔ VOk (r.Moved.get ⟨i, hi⟩) ∧ (r.Moved.get ⟨i, hi⟩).get ⟨i, hi⟩ = 0 := ⟨fun h => h hi, fun h _ => h⟩
      simp only [usufructref03_Right_L1, fix_of hi, Option.bind]
      rw [if_pos (by simp; omega)]
      simp only [wr_succ (show i < 1000000000000000 by omega), letM_eq]
      generalize hB : (b && decide (∀ j, j < i → row r j)) = B
      have hR : (b && decide (∀ j, j < i + 1 → row r j)) = (B && decide (row r i)) := by
        rw [← hB]
        apply Bool.eq_iff_iff.2
        simp only [Bool.and_eq_true, decide_eq_true_eq, hsucc]
        exact ⟨fun h => ⟨⟨h.1, h.2.1⟩, h.2.2⟩, fun h => ⟨h.1.1, h.1.2, h.2⟩⟩
      rw [hR]
      cases B with
      | false => simp [gd]
      | true =>
        rw [gd_t rfl]
        simp only []
        rw [gd_t trivial, ref02_Right_eq]
        simp only [Bool.true_and]
        by_cases h1 : VOk (r.Moved.get ⟨i, hi⟩)
        · rw [gd_t (decide_eq_true h1)]
          simp only []
          by_cases h2 : (r.Moved.get ⟨i, hi⟩).get ⟨i, hi⟩ = 0
          · rw [decide_eq_true h1, decide_eq_true h2, decide_eq_true (hrow.2 ⟨h1, h2⟩)]; rfl
          · rw [decide_eq_false h2, decide_eq_false (fun k => h2 (hrow.1 k).2), Bool.and_false]
        · rw [gd_f (by rw [decide_eq_false h1]; decide)]
          simp only []
          rw [decide_eq_false h1, decide_eq_false (fun k => h1 (hrow.1 k).1)]; rfl
    · rintro s rfl
      simp [usufructref03_Right_L1]
  have hrows : (∀ i : Nat, i < 16 → row r i) ↔ ∀ k : Fin 16, VOk (r.Moved.get k) ∧ (r.Moved.get k).get k = 0 :=
    ⟨fun h k => h k.1 k.2 k.2, fun h i hi _ => h ⟨i, hi⟩⟩
  simp only [Option.bind, gd_and]
  rw [hb]
  refine sd ?_
  simp only [Bool.and_eq_true, Bool.if_false_right, decide_eq_true_eq, hrows]
  unfold ROk
  exact ⟨fun h => ⟨h.1.1, h.1.2.2, h.2⟩, fun h => ⟨⟨h.1, h.1, h.2.1⟩, h.2.2⟩⟩

/-- What was given is what must be. -/
def gives (g u : Vector Int 16) (room : Int) : Prop := (sumS g.toList).2 = 0 ∧ (sumS u.toList).2 = 0 ∧ (addS room (sumS u.toList).1).2 = 0 ∧ (sumS g.toList).1 = (addS room (sumS u.toList).1).1
instance (g u : Vector Int 16) (room : Int) : Decidable (gives g u room) := by unfold gives; infer_instance
def COk (c : TCounter) : Prop := IsN c.Init ∧ IsN c.Low ∧ IsN c.High ∧ c.Low ≤ c.Init ∧ c.Init ≤ c.High ∧ ROk c.Down ∧ ROk c.Up ∧ gives c.Down.Given c.Up.Used (c.Init - c.Low) ∧ gives c.Up.Given c.Down.Used (c.High - c.Init)
instance (c : TCounter) : Decidable (COk c) := by unfold COk; infer_instance
theorem gd_nb {p : Prop} [Decidable p] {b : Bool} : gd p (some b) = some (if p then b else false) := by by_cases h : p <;> simp [gd, h]
theorem ref04_Right_eq (c : TCounter) : usufructref04_Right c = some (decide (COk c)) := by
  unfold usufructref04_Right
  simp only [ref_Is_eq, ref03_Right_eq, ref02_Sum_eq, ref_Add_eq, Option.bind, gd_nb, letM_eq]
  by_cases h : IsN c.Init ∧ IsN c.Low ∧ IsN c.High ∧ c.Low ≤ c.Init ∧ c.Init ≤ c.High ∧ ROk c.Down ∧ ROk c.Up
  · obtain ⟨h1, h2, h3, h4, h5, h6, h7⟩ := h
    have w1 : wr .i64 (c.Init - c.Low) = c.Init - c.Low := wr_id (by unfold IsN at *; omega)
    have w2 : wr .i64 (c.High - c.Init) = c.High - c.Init := wr_id (by unfold IsN at *; omega)
    rw [if_neg (by simp [h1, h2, h3, h6, h7]; omega), w1, w2]
    refine sd ?_
    simp only [Bool.and_eq_true, decide_eq_true_eq, and_assoc]
    unfold COk gives
    constructor
    · rintro ⟨a, b, d, e, f, g, i, j⟩
      exact ⟨h1, h2, h3, h4, h5, h6, h7, ⟨a, b, d, i⟩, e, f, g, j⟩
    · rintro ⟨_, _, _, _, _, _, _, ⟨a, b, d, i⟩, e, f, g, j⟩
      exact ⟨a, b, d, e, f, g, i, j⟩
  · have hn : ¬ COk c := fun k => h ⟨k.1, k.2.1, k.2.2.1, k.2.2.2.1, k.2.2.2.2.1, k.2.2.2.2.2.1, k.2.2.2.2.2.2.1⟩
    rw [if_pos, decide_eq_false hn]
    by_cases h1 : IsN c.Init <;> by_cases h2 : IsN c.Low <;> by_cases h3 : IsN c.High <;> by_cases h4 : c.Init < c.Low <;> by_cases h5 : c.High < c.Init <;> by_cases h6 : ROk c.Down <;> by_cases h7 : ROk c.Up <;> simp [h1, h2, h3, h4, h5, h6, h7]
    exact h ⟨h1, h2, h3, by omega, by omega, h6, h7⟩
end Go.Av
namespace Go.Av
set_option linter.unusedSectionVars false
set_option linter.unusedVariables false
set_option linter.unusedSimpArgs false

theorem vec_Right_eq (v : Vector Int 16) : vec_Right v = some (decide (VOk v)) := by
  unfold vec_Right
  rw [loop_all 16 (by omega) (fun i => 0 ≤ at16 v i ∧ at16 v i ≤ 1099511627776) false () (fun i hi => ?_) (by simp [vec_Right_L1])]
  · by_cases h : VOk v
    · rw [if_pos ((VOk_iff v).2 h), decide_eq_true h]; rfl
    · rw [if_neg (fun k => h ((VOk_iff v).1 k)), decide_eq_false h]; rfl
  · have e : at16 v i = v.get ⟨i, hi⟩ := by unfold at16; rw [dif_pos hi]
    simp only [vec_Right_L1, fix_of hi, num_Is_eq, Option.bind, e]
    rw [if_pos (by simp; omega)]
    simp only [wr_succ (show i < 1000000000000000 by omega)]
    by_cases h1 : v.get ⟨i, hi⟩ < 0
    · rw [gd_f (by rw [decide_eq_true h1]; decide)]
      simp only []
      rw [if_pos (by rw [decide_eq_true h1]; rfl), if_neg (by omega)]
    · rw [gd_t (by rw [decide_eq_false h1])]
      simp only []
      by_cases h2 : IsN (v.get ⟨i, hi⟩)
      · rw [if_neg (by rw [decide_eq_false h1, decide_eq_true h2]; decide), if_pos (by unfold IsN at h2; omega)]
      · rw [if_pos (by rw [decide_eq_false h2]; simp), if_neg (by unfold IsN at h2; omega)]
theorem rights_Right_eq (r : TRights) : rights_Right r = some (decide (ROk r)) := by
  unfold rights_Right
  rw [vec_Right_eq, vec_Right_eq]
  simp only [Option.bind, gd_nb]
  by_cases h : VOk r.Given ∧ VOk r.Used
  · rw [if_neg (by simp [h.1, h.2])]
    rw [loop_all 16 (by omega) (row r) false () (fun i hi => ?_) (by simp [rights_Right_L1])]
    · have hrows : (∀ i : Nat, i < 16 → row r i) ↔ ∀ k : Fin 16, VOk (r.Moved.get k) ∧ (r.Moved.get k).get k = 0 :=
        ⟨fun h k => h k.1 k.2 k.2, fun h i hi _ => h ⟨i, hi⟩⟩
      by_cases h2 : ∀ i : Nat, i < 16 → row r i
      · rw [if_pos h2, decide_eq_true (show ROk r from ⟨h.1, h.2, hrows.1 h2⟩)]; rfl
      · rw [if_neg h2, decide_eq_false (show ¬ ROk r from fun k => h2 (hrows.2 k.2.2))]; rfl
    · have hrow : row r i ↔ VOk (r.Moved.get ⟨i, hi⟩) ∧ (r.Moved.get ⟨i, hi⟩).get ⟨i, hi⟩ = 0 := ⟨fun h => h hi, fun h _ => h⟩
      simp only [rights_Right_L1, fix_of hi, vec_Right_eq, letM_eq, Option.bind]
      rw [if_pos (by simp; omega)]
      simp only [wr_succ (show i < 1000000000000000 by omega)]
      by_cases h1 : VOk (r.Moved.get ⟨i, hi⟩)
      · rw [gd_t (by rw [decide_eq_true h1]; rfl)]
        simp only []
        by_cases h2 : (r.Moved.get ⟨i, hi⟩).get ⟨i, hi⟩ = 0
        · rw [if_neg (by rw [decide_eq_true h1, decide_eq_true h2]; decide), if_pos (hrow.2 ⟨h1, h2⟩)]
        · rw [if_pos (by rw [decide_eq_false h2]; simp), if_neg (fun k => h2 (hrow.1 k).2)]
      · rw [gd_f (by rw [decide_eq_false h1]; decide)]
        simp only []
        rw [if_pos (by rw [decide_eq_false h1]; rfl), if_neg (fun k => h1 (hrow.1 k).1)]
  · have hn : ¬ ROk r := fun k => h ⟨k.1, k.2.1⟩
    rw [if_pos, decide_eq_false hn]
    by_cases h1 : VOk r.Given <;> by_cases h2 : VOk r.Used <;> simp [h1, h2]
    exact h ⟨h1, h2⟩
end Go.Av
namespace Go.Av
set_option linter.unusedSectionVars false
set_option linter.unusedVariables false
set_option linter.unusedSimpArgs false

def bAt (s : ByteArray) (i : Nat) : Int := (bix s (i : Int)).getD 0
theorem bix_of {s : ByteArray} {i : Nat} (h : i < s.size) : bix s (i : Int) = some (bAt s i) := by
  unfold bAt bix
  rw [dif_pos (by omega)]
  rfl
def NameOk (s : ByteArray) : Prop := (∀ i : Nat, i < s.size → 33 ≤ bAt s i ∧ bAt s i ≤ 126) ∧ 1 ≤ s.size ∧ s.size ≤ 8
instance (s : ByteArray) : Decidable (NameOk s) := by unfold NameOk; infer_instance
theorem ref_Name_eq (s : ByteArray) (hs : s.size ≤ 1000000000000000) : usufructref07_Name s = some (decide (NameOk s)) := by
  unfold usufructref07_Name
  rw [loop_all s.size hs (fun i => 33 ≤ bAt s i ∧ bAt s i ≤ 126) false () (fun i hi => ?_) (by simp [usufructref07_Name_L1])]
  · by_cases h : ∀ i : Nat, i < s.size → 33 ≤ bAt s i ∧ bAt s i ≤ 126
    · rw [if_pos h]
      refine sd ?_
      simp only [NameOk, Bool.and_eq_true, decide_eq_true_eq]
      exact ⟨fun k => ⟨h, by omega, by omega⟩, fun k => ⟨by omega, by omega⟩⟩
    · rw [if_neg h, decide_eq_false (p := NameOk s) (fun k => h k.1)]; rfl
  · simp only [usufructref07_Name_L1, bix_of hi, Option.bind]
    rw [if_pos (by simp; omega)]
    simp only [wr_succ (show i < 1000000000000000 by omega)]
    by_cases h1 : bAt s i < 33
    · rw [gd_f (by rw [decide_eq_true h1]; decide)]
      simp only []
      rw [if_pos (by rw [decide_eq_true h1]; rfl), if_neg (by omega)]
    · rw [gd_t (by rw [decide_eq_false h1])]
      simp only []
      by_cases h2 : 126 < bAt s i
      · rw [if_pos (by rw [decide_eq_true h2]; simp), if_neg (by omega)]
      · rw [if_neg (by rw [decide_eq_false h1, decide_eq_false h2]; decide), if_pos (by omega)]
theorem field_Name_eq (s : ByteArray) (hs : s.size ≤ 1000000000000000) : field_Name s = some (decide (NameOk s)) := by
  unfold field_Name
  rw [loop_all s.size hs (fun i => 33 ≤ bAt s i ∧ bAt s i ≤ 126) false () (fun i hi => ?_) (by simp [field_Name_L1])]
  · by_cases h : ∀ i : Nat, i < s.size → 33 ≤ bAt s i ∧ bAt s i ≤ 126
    · rw [if_pos h]
      refine sd ?_
      simp only [NameOk, Bool.and_eq_true, decide_eq_true_eq]
      exact ⟨fun k => ⟨h, by omega, by omega⟩, fun k => ⟨by omega, by omega⟩⟩
    · rw [if_neg h, decide_eq_false (p := NameOk s) (fun k => h k.1)]; rfl
  · simp only [field_Name_L1, bix_of hi, Option.bind]
    rw [if_pos (by simp; omega)]
    simp only [wr_succ (show i < 1000000000000000 by omega)]
    by_cases h1 : bAt s i < 33
    · rw [gd_f (by rw [decide_eq_true h1]; decide)]
      simp only []
      rw [if_pos (by rw [decide_eq_true h1]; rfl), if_neg (by omega)]
    · rw [gd_t (by rw [decide_eq_false h1])]
      simp only []
      by_cases h2 : 126 < bAt s i
      · rw [if_pos (by rw [decide_eq_true h2]; simp), if_neg (by omega)]
      · rw [if_neg (by rw [decide_eq_false h1, decide_eq_false h2]; decide), if_pos (by omega)]

def cnt (x : Int) : Prop := 0 ≤ x ∧ IsN x
instance (x : Int) : Decidable (cnt x) := by unfold cnt; infer_instance
def LOk (l : TLock) : Prop := cnt l.Seq ∧ cnt l.Ver ∧ 0 ≤ l.Holder ∧ l.Holder ≤ 15 ∧ IsN l.Value
instance (l : TLock) : Decidable (LOk l) := by unfold LOk; infer_instance
theorem ref05_Right_eq (l : TLock) : usufructref05_Right l = some (decide (LOk l)) := by
  unfold usufructref05_Right
  simp only [ref_Is_eq, gd_and, letM_eq, Option.bind]
  refine sd ?_
  simp only [Bool.and_eq_true, Bool.if_false_right, decide_eq_true_eq]
  unfold LOk cnt IsN
  omega

def zeroC : TCounter := ⟨0, 0, 0, default, default⟩
def zeroL : TLock := ⟨0, 0, 0, 0⟩
def FOk (f : TField) : Prop := NameOk f.Name ∧ cnt f.Epoch ∧ ((f.Kind = 1 ∧ COk f.Counter ∧ Rts f.Holds ∧ f.Lock = zeroL) ∨ (f.Kind = 2 ∧ LOk f.Lock ∧ f.Holds = [] ∧ f.Counter = zeroC))
instance (f : TField) : Decidable (FOk f) := by unfold FOk; infer_instance
theorem ref07_Right_eq (f : TField) (hs : f.Name.size ≤ 1000000000000000) (hh : f.Holds.length ≤ 1000000000000) : usufructref07_Right f = some (decide (FOk f)) := by
  unfold usufructref07_Right
  simp only [ref_Name_eq _ hs, ref_Is_eq, Option.bind, gd_nb, letM_eq, ref04_Right_eq, ref_Rights_eq f.Holds (by omega), ref05_Right_eq]
  by_cases h : NameOk f.Name ∧ cnt f.Epoch
  · obtain ⟨h1, h2⟩ := h
    have h3 : ¬ f.Epoch < 0 := by unfold cnt at h2; omega
    rw [if_neg (by simp [h1, h2.2, h3])]
    by_cases hk : f.Kind = 1
    · rw [if_pos (by simp [hk])]
      refine sd ?_
      simp only [Bool.and_eq_true, decide_eq_true_eq, Bool.if_false_right]
      unfold FOk
      constructor
      · rintro ⟨⟨a, b, c⟩, d⟩
        exact ⟨h1, h2, .inl ⟨hk, a, c, d⟩⟩
      · rintro ⟨_, _, ⟨_, a, b, c⟩ | ⟨a, _⟩⟩
        · exact ⟨⟨a, a, b⟩, c⟩
        · omega
    · rw [if_neg (by simp [hk])]
      refine sd ?_
      simp only [Bool.and_eq_true, decide_eq_true_eq, Bool.if_false_right]
      unfold FOk
      have hz : ((f.Holds.length : Int) = 0) ↔ f.Holds = [] := by
        rw [← List.length_eq_zero_iff]; omega
      rw [hz]
      constructor
      · rintro ⟨⟨⟨a, a', b⟩, c⟩, d⟩
        exact ⟨h1, h2, .inr ⟨a, b, c, d⟩⟩
      · rintro ⟨_, _, ⟨a, _⟩ | ⟨a, b, c, d⟩⟩
        · omega
        · exact ⟨⟨⟨a, a, b⟩, c⟩, d⟩
  · have hn : ¬ FOk f := fun k => h ⟨k.1, k.2.1⟩
    rw [if_pos, decide_eq_false hn]
    by_cases h1 : NameOk f.Name <;> by_cases h2 : f.Epoch < 0 <;> by_cases h3 : IsN f.Epoch <;> simp [h1, h2, h3]
    exact h ⟨h1, by unfold cnt; exact ⟨by omega, h3⟩⟩
end Go.Av
namespace Go.Av
set_option linter.unusedSectionVars false
set_option linter.unusedVariables false
set_option linter.unusedSimpArgs false

def only (d : Int) : Vector Int 16 := (default : Vector Int 16).set 0 d
def NewOk (i l h : Int) : Prop := IsN i ∧ IsN l ∧ IsN h ∧ l ≤ i ∧ i ≤ h ∧ IsN (h - l)
instance (i l h : Int) : Decidable (NewOk i l h) := by unfold NewOk; infer_instance
def LNewOk (k v : Int) : Prop := (0 ≤ k ∧ k < 16) ∧ IsN v
instance (k v : Int) : Decidable (LNewOk k v) := by unfold LNewOk; infer_instance
end Go.Av
namespace Go.Av
set_option linter.unusedSectionVars false
set_option linter.unusedVariables false
set_option linter.unusedSimpArgs false

def setRow (m : Vector (Vector Int 16) 16) (i : Nat) (x : Vector Int 16) : Vector (Vector Int 16) 16 := if h : i < 16 then m.set i x h else m
end Go.Av
namespace Go.Av
set_option linter.unusedSectionVars false
set_option linter.unusedVariables false
set_option linter.unusedSimpArgs false

theorem vec_Sum_eq (v : Vector Int 16) : vec_Sum v = some (sumS v.toList) := by
  unfold vec_Sum
  rw [num_Sum_eq _ (by simp)]; rfl
theorem counter_given_eq (a b : TRights) (room : Int) : counter_given a b room = some (decide (gives a.Given b.Used room)) := by
  unfold counter_given
  simp only [vec_Sum_eq, num_Add_eq, Option.bind, letM_eq]
  refine sd ?_
  simp only [Bool.and_eq_true, decide_eq_true_eq, and_assoc]
  exact Iff.rfl
theorem counter_Right_eq (c : TCounter) : counter_Right c = some (decide (COk c)) := by
  unfold counter_Right
  simp only [num_Is_eq, rights_Right_eq, counter_given_eq, Option.bind, gd_nb, letM_eq]
  by_cases h : IsN c.Init ∧ IsN c.Low ∧ IsN c.High ∧ c.Low ≤ c.Init ∧ c.Init ≤ c.High
  · obtain ⟨h1, h2, h3, h4, h5⟩ := h
    have w1 : wr .i64 (c.Init - c.Low) = c.Init - c.Low := wr_id (by unfold IsN at *; omega)
    have w2 : wr .i64 (c.High - c.Init) = c.High - c.Init := wr_id (by unfold IsN at *; omega)
    rw [if_neg (by simp [h1, h2, h3]; omega), w1, w2]
    refine sd ?_
    simp only [Bool.and_eq_true, decide_eq_true_eq, Bool.if_false_right]
    unfold COk
    constructor
    · rintro ⟨⟨⟨a, b⟩, _, d⟩, e⟩
      simp_all
    · rintro ⟨_, _, _, _, _, a, b, d, e⟩
      simp_all
  · have hn : ¬ COk c := fun k => h ⟨k.1, k.2.1, k.2.2.1, k.2.2.2.1, k.2.2.2.2.1⟩
    rw [if_pos, decide_eq_false hn]
    by_cases h1 : IsN c.Init <;> by_cases h2 : IsN c.Low <;> by_cases h3 : IsN c.High <;> by_cases h4 : c.Init < c.Low <;> by_cases h5 : c.High < c.Init <;> simp [h1, h2, h3, h4, h5]
    exact h ⟨h1, h2, h3, by omega, by omega⟩
theorem lock_Right_eq (l : TLock) : lock_Right l = some (decide (LOk l)) := by
  have h1 : ∀ n, lock_Right_1 n = some (decide (cnt n)) := fun n => by
    unfold lock_Right_1
    simp only [num_Is_eq, Option.bind, gd_nb, letM_eq]
    refine sd ?_
    simp only [Bool.and_eq_true, decide_eq_true_eq, Bool.if_false_right]
    unfold cnt
    constructor
    · rintro ⟨a, _, b⟩; exact ⟨a, b⟩
    · rintro ⟨a, b⟩; exact ⟨a, a, b⟩
  have h2 : ∀ k, lock_is k = some (decide (0 ≤ k ∧ k < 16)) := fun k => sd (by simp)
  unfold lock_Right
  simp only [h1, h2, num_Is_eq, Option.bind, gd_nb, letM_eq]
  refine sd ?_
  simp only [Bool.and_eq_true, decide_eq_true_eq, Bool.if_false_right]
  unfold LOk
  constructor
  · rintro ⟨⟨⟨a, _, b⟩, _, d⟩, e⟩
    have e2 := e.2
    exact ⟨a, b, d.1, by omega, e2⟩
  · rintro ⟨a, b, d, e, f⟩
    have e2 : l.Holder < 16 := by omega
    simp [a, b, d, e2, f]
theorem field_Right_eq (f : TField) (hs : f.Name.size ≤ 1000000000000000) (hh : f.Holds.length ≤ 1000000000000) : field_Right f = some (decide (FOk f)) := by
  unfold field_Right
  simp only [field_Name_eq _ hs, num_Is_eq, Option.bind, gd_nb, letM_eq, counter_Right_eq, hold_Rights_eq f.Holds (by omega), lock_Right_eq]
  by_cases h : NameOk f.Name ∧ cnt f.Epoch
  · obtain ⟨h1, h2⟩ := h
    have h3 : ¬ f.Epoch < 0 := by unfold cnt at h2; omega
    rw [if_neg (by simp [h1, h2.2, h3])]
    by_cases hk : f.Kind = 1
    · rw [if_pos (by simp [hk])]
      refine sd ?_
      simp only [Bool.and_eq_true, decide_eq_true_eq, Bool.if_false_right]
      unfold FOk
      constructor
      · rintro ⟨⟨a, b, c⟩, d⟩
        exact ⟨h1, h2, .inl ⟨hk, a, c, d⟩⟩
      · rintro ⟨_, _, ⟨_, a, b, c⟩ | ⟨a, _⟩⟩
        · exact ⟨⟨a, a, b⟩, c⟩
        · omega
    · rw [if_neg (by simp [hk])]
      have hz : ((f.Holds.length : Int) = 0) ↔ f.Holds = [] := by
        rw [← List.length_eq_zero_iff]; omega
      by_cases hk2 : f.Kind = 2
      · rw [if_pos (by simp [hk2])]
        refine sd ?_
        simp only [Bool.and_eq_true, decide_eq_true_eq, Bool.if_false_right]
        unfold FOk
        rw [hz]
        constructor
        · rintro ⟨⟨a, b⟩, d⟩
          exact ⟨h1, h2, .inr ⟨hk2, a, b, d⟩⟩
        · rintro ⟨_, _, ⟨a, _⟩ | ⟨a, b, c, d⟩⟩
          · omega
          · exact ⟨⟨b, c⟩, d⟩
      · rw [if_neg (by simp [hk2]), decide_eq_false]
        rintro ⟨_, _, ⟨a, _⟩ | ⟨a, _⟩⟩ <;> contradiction
  · have hn : ¬ FOk f := fun k => h ⟨k.1, k.2.1⟩
    rw [if_pos, decide_eq_false hn]
    by_cases h1 : NameOk f.Name <;> by_cases h2 : f.Epoch < 0 <;> by_cases h3 : IsN f.Epoch <;> simp [h1, h2, h3]
    exact h ⟨h1, by unfold cnt; exact ⟨by omega, h3⟩⟩

theorem TField_eq {a b : TField} : a = b ↔ a.Name = b.Name ∧ a.Kind = b.Kind ∧ a.Epoch = b.Epoch ∧ a.Counter = b.Counter ∧ a.Lock = b.Lock ∧ a.Holds = b.Holds := by
  cases a; cases b; simp
theorem Few7_eq (ls : List TField) (hl : ls.length ≤ 1000000000000000) : usufructlaw07_Few ls = some (decide (∀ f ∈ ls, f.Name.size ≤ 100 ∧ f.Holds.length ≤ 40)) := by
  unfold usufructlaw07_Few
  rw [loop_all ls.length hl (fun i => (ls.getD i default).Name.size ≤ 100 ∧ (ls.getD i default).Holds.length ≤ 40) false () (fun i hi => ?_) (by simp [-List.getD_eq_getElem?_getD, usufructlaw07_Few_L1])]
  · by_cases h : ∀ f ∈ ls, f.Name.size ≤ 100 ∧ f.Holds.length ≤ 40
    · rw [if_pos (fun i hi => h _ (by simp [List.getD, hi]))]
      rw [decide_eq_true h]; rfl
    · rw [if_neg (fun h2 => h fun f hx => by obtain ⟨i, hi, rfl⟩ := List.getElem_of_mem hx; simpa [List.getD, hi] using h2 i hi)]
      rw [decide_eq_false h]; rfl
  · simp only [usufructlaw07_Few_L1, six_of hi, letM_eq, Option.bind]
    rw [if_pos (by simp; omega)]
    simp only [wr_succ (show i < 1000000000000000 by omega)]
    by_cases h : (ls.getD i default).Name.size ≤ 100 ∧ (ls.getD i default).Holds.length ≤ 40
    · rw [if_neg (by simp only [Bool.or_eq_true, decide_eq_true_eq]; omega), if_pos h]
    · rw [if_pos (by simp only [Bool.or_eq_true, decide_eq_true_eq]; omega), if_neg h]
end Go.Av
namespace Go.Av
set_option linter.unusedSectionVars false
set_option linter.unusedVariables false
set_option linter.unusedSimpArgs false

theorem zeroF : (⟨(default : ByteArray), 0, 0, (default : TCounter), (default : TLock), ([] : List THold)⟩ : TField) = default := rfl
theorem ref07_Same_eq (a b : TField) (hl : a.Holds.length ≤ 1000000000000000) : usufructref07_Same a b = some (decide (a = b)) := by
  unfold usufructref07_Same
  simp only [letM_eq]
  by_cases h : a.Name = b.Name ∧ a.Kind = b.Kind ∧ a.Epoch = b.Epoch ∧ a.Counter = b.Counter ∧ a.Lock = b.Lock ∧ a.Holds.length = b.Holds.length
  · obtain ⟨h1, h2, h3, h4, h5, h6⟩ := h
    rw [if_neg (by simp [h1, h2, h3, h4, h5, h6])]
    rw [loop_all a.Holds.length hl (fun i => a.Holds.getD i default = b.Holds.getD i default) false () (fun i hi => ?_) (by simp [-List.getD_eq_getElem?_getD, usufructref07_Same_L1])]
    · by_cases h : a.Holds = b.Holds
      · rw [if_pos (fun i hi => by rw [h])]
        refine sd ?_
        simp [TField_eq, h1, h2, h3, h4, h5, h]
      · rw [if_neg (fun h2 => h (List.ext_getElem h6 fun i h3 h4 => by simpa [List.getD, h3, h4] using h2 i h3)), decide_eq_false (fun k => h (by rw [k]))]
        rfl
    · simp only [usufructref07_Same_L1, six_of hi, six_of (h6 ▸ hi), letM_eq, Option.bind]
      rw [if_pos (by simp; omega)]
      simp only [wr_succ (show i < 1000000000000000 by omega)]
      by_cases h : a.Holds.getD i default = b.Holds.getD i default
      · rw [if_neg (by rw [decide_eq_true h]; decide), if_pos h]
      · rw [if_pos (by rw [decide_eq_false h]; rfl), if_neg h]
  · rw [if_pos, decide_eq_false (fun k => h (by rw [k]; simp))]
    simp only [Bool.or_eq_true, Bool.not_eq_true', decide_eq_false_iff_not]
    exact Classical.byContradiction fun k => h (by
      simp only [not_or, Classical.not_not] at k
      exact ⟨k.1.1.1.1.1, k.1.1.1.1.2, k.1.1.1.2, k.1.1.2, k.1.2, by omega⟩)

end Go.Av
namespace Go.Av
set_option linter.unusedSectionVars false
set_option linter.unusedVariables false
set_option linter.unusedSimpArgs false

theorem vget_set {α : Type} {n : Nat} (v : Vector α n) (i : Nat) (hi : i < n) (x : α) (k : Fin n) : (v.set i x hi).get k = if i = k.val then x else v.get k := by
  show (v.set i x hi)[k.val] = _
  rw [Vector.getElem_set]; rfl
theorem vext {α : Type} {n : Nat} {a b : Vector α n} (h : ∀ k : Fin n, a.get k = b.get k) : a = b := Vector.ext fun i hi => h ⟨i, hi⟩
theorem vofn {α : Type} {n : Nat} (f : Fin n → α) (k : Fin n) : (Vector.ofFn f).get k = f k := by
  show (Vector.ofFn f)[k.val] = _
  rw [Vector.getElem_ofFn]
/-- The first ones are done. -/
def partV {α : Type} {n : Nat} (f : Fin n → α) (v : Vector α n) (i : Nat) : Vector α n := Vector.ofFn fun k => if k.val < i then f k else v.get k
theorem partV_zero {α : Type} {n : Nat} (f : Fin n → α) (v : Vector α n) : partV f v 0 = v := vext fun k => by unfold partV; rw [vofn, if_neg (by omega)]
theorem partV_full {α : Type} {n : Nat} (f : Fin n → α) (v : Vector α n) : partV f v n = Vector.ofFn f := vext fun k => by unfold partV; rw [vofn, vofn, if_pos k.2]
theorem partV_get {α : Type} {n : Nat} (f : Fin n → α) (v : Vector α n) (i : Nat) (hi : i < n) : (partV f v i).get ⟨i, hi⟩ = v.get ⟨i, hi⟩ := by unfold partV; rw [vofn, if_neg (by simp)]
theorem partV_set {α : Type} {n : Nat} (f : Fin n → α) (v : Vector α n) (i : Nat) (hi : i < n) : (partV f v i).set i (f ⟨i, hi⟩) hi = partV f v (i + 1) := vext fun k => by
  rw [vget_set]
  unfold partV
  rw [vofn, vofn]
  by_cases h : i = k.val
  · subst h; rw [if_pos rfl, if_pos (by omega)]
  · rw [if_neg h]
    by_cases h2 : k.val < i
    · rw [if_pos h2, if_pos (by omega)]
    · rw [if_neg h2, if_neg (by omega)]

def joinV (a b : Vector Int 16) : Vector Int 16 := Vector.ofFn fun k => max (a.get k) (b.get k)
theorem vec_Join_eq (a b : Vector Int 16) : vec_Join a b = some (joinV a b) := by
  unfold vec_Join
  rw [loopM_eq (q := joinV a b) (fun i s => s = ((i : Int), partV (fun k => max (a.get k) (b.get k)) a i)) 16 (by omega) ?_ ?_ (by rw [partV_zero]; rfl)]
  · rfl
  · rintro i s hi rfl
    refine .inl ⟨_, ?_, rfl⟩
    simp only [vec_Join_L1, fix_of hi, letM_eq, Option.bind, partV_get _ _ _ hi, wr_succ (show i < 1000000000000000 by omega)]
    rw [if_pos (by simp; omega), partV_set (fun k => max (a.get k) (b.get k)) a i hi]
  · rintro s rfl
    simp only [vec_Join_L1]
    rw [if_neg (by simp), partV_full]; rfl
theorem ref02_Join_eq (a b : Vector Int 16) : usufructref02_Join a b = some (joinV a b) := by
  unfold usufructref02_Join
  rw [loopM_eq (q := joinV a b) (fun i s => s = ((i : Int), partV (fun k => max (a.get k) (b.get k)) default i)) 16 (by omega) ?_ ?_ (by rw [partV_zero]; rfl)]
  · rfl
  · rintro i s hi rfl
    refine .inl ⟨_, ?_, rfl⟩
    simp only [usufructref02_Join_L1, fix_of hi, letM_eq, Option.bind, wr_succ (show i < 1000000000000000 by omega)]
    rw [if_pos (by simp; omega), ← partV_set (fun k => max (a.get k) (b.get k)) default i hi]
    by_cases h : a.get ⟨i, hi⟩ < b.get ⟨i, hi⟩
    · rw [if_pos (by simp [h]), show max (a.get ⟨i, hi⟩) (b.get ⟨i, hi⟩) = b.get ⟨i, hi⟩ by omega]
      congr 3
      refine vext fun k => ?_
      rw [vget_set, vget_set, vget_set]
      split <;> rfl
    · rw [if_neg (by simpa using h), show max (a.get ⟨i, hi⟩) (b.get ⟨i, hi⟩) = a.get ⟨i, hi⟩ by omega]
  · rintro s rfl
    simp only [usufructref02_Join_L1]
    rw [if_neg (by simp), partV_full]; rfl

def joinR (a b : TRights) : TRights := ⟨joinV a.Given b.Given, joinV a.Used b.Used, Vector.ofFn fun k => joinV (a.Moved.get k) (b.Moved.get k)⟩
theorem rights_Join_eq (a b : TRights) : rights_Join a b = some (joinR a b) := by
  unfold rights_Join rights_Join_1 rights_Join_1_2
  simp only [vec_Join_eq, letM_eq, Option.bind]
  rw [loopM_eq (q := joinR a b) (fun i s => s = ((i : Int), (⟨joinV a.Given b.Given, joinV a.Used b.Used, partV (fun k => joinV (a.Moved.get k) (b.Moved.get k)) a.Moved i⟩ : TRights))) 16 (by omega) ?_ ?_ (by rw [partV_zero]; rfl)]
  · rintro i s hi rfl
    refine .inl ⟨_, ?_, rfl⟩
    simp only [rights_Join_L1, rights_Join_1_3, vec_Join_eq, fix_of hi, letM_eq, Option.bind, partV_get _ _ _ hi, wr_succ (show i < 1000000000000000 by omega)]
    rw [if_pos (by simp; omega), partV_set (fun k => joinV (a.Moved.get k) (b.Moved.get k)) a.Moved i hi]
  · rintro s rfl
    simp only [rights_Join_L1]
    rw [if_neg (by simp), partV_full]; rfl
theorem ref03_Join_eq (a b : TRights) : usufructref03_Join a b = some (joinR a b) := by
  unfold usufructref03_Join
  simp only [ref02_Join_eq, letM_eq, Option.bind]
  rw [loopM_eq (q := joinR a b) (fun i s => s = ((i : Int), (⟨joinV a.Given b.Given, joinV a.Used b.Used, partV (fun k => joinV (a.Moved.get k) (b.Moved.get k)) default i⟩ : TRights))) 16 (by omega) ?_ ?_ (by rw [partV_zero]; rfl)]
  · rintro i s hi rfl
    refine .inl ⟨_, ?_, rfl⟩
    simp only [usufructref03_Join_L1, ref02_Join_eq, fix_of hi, letM_eq, Option.bind, wr_succ (show i < 1000000000000000 by omega)]
    rw [if_pos (by simp; omega), partV_set (fun k => joinV (a.Moved.get k) (b.Moved.get k)) default i hi]
  · rintro s rfl
    simp only [usufructref03_Join_L1]
    rw [if_neg (by simp), partV_full]; rfl

def joinC (a b : TCounter) : TCounter × Int := if a.Init = b.Init ∧ a.Low = b.Low ∧ a.High = b.High then ({ a with Down := joinR a.Down b.Down, Up := joinR a.Up b.Up }, 0) else (default, 1)
theorem counter_Join_eq (a b : TCounter) : counter_Join a b = some (joinC a b) := by
  unfold counter_Join joinC
  simp only [rights_Join_eq, letM_eq, Option.bind]
  by_cases h : a.Init = b.Init ∧ a.Low = b.Low ∧ a.High = b.High
  · rw [if_neg (by simp [h.1, h.2.1, h.2.2]), if_pos h]
  · rw [if_pos, if_neg h]
    · rfl
    · simp only [Bool.or_eq_true, Bool.not_eq_true', decide_eq_false_iff_not]
      exact Classical.byContradiction fun k => h (by simp only [not_or, Classical.not_not] at k; exact ⟨k.1.1, k.1.2, k.2⟩)
theorem ref04_Join_eq (a b : TCounter) : usufructref04_Join a b = some (joinC a b) := by
  unfold usufructref04_Join joinC
  simp only [ref03_Join_eq, letM_eq, Option.bind]
  by_cases h : a.Init = b.Init ∧ a.Low = b.Low ∧ a.High = b.High
  · rw [if_neg (by simp [h.1, h.2.1, h.2.2]), if_pos h]
  · rw [if_pos, if_neg h]
    · rfl
    · simp only [Bool.or_eq_true, Bool.not_eq_true', decide_eq_false_iff_not]
      exact Classical.byContradiction fun k => h (by simp only [not_or, Classical.not_not] at k; exact ⟨k.1.1, k.1.2, k.2⟩)

def LLt (a b : TLock) : Prop := a.Seq < b.Seq ∨ (a.Seq = b.Seq ∧ (a.Ver < b.Ver ∨ (a.Ver = b.Ver ∧ (a.Holder < b.Holder ∨ (a.Holder = b.Holder ∧ a.Value < b.Value)))))
instance (a b : TLock) : Decidable (LLt a b) := by unfold LLt; infer_instance
def joinL (a b : TLock) : TLock := if LLt a b then b else a
def lockCmp (a b : TLock) : Int := if a.Seq = b.Seq then (if a.Ver = b.Ver then (if a.Holder = b.Holder then (if a.Value = b.Value then 0 else if b.Value < a.Value then 1 else -1) else if b.Holder < a.Holder then 1 else -1) else if b.Ver < a.Ver then 1 else -1) else if b.Seq < a.Seq then 1 else -1
theorem lock_Compare_eq (a b : TLock) : lock_Compare a b = some (lockCmp a b) := by
  have e0 : fix_ 2 0 = some (0 : Fin 2) := rfl
  have e1 : fix_ 2 1 = some (1 : Fin 2) := rfl
  have f0 : fix_ 4 0 = some (0 : Fin 4) := rfl
  have f1 : fix_ 4 1 = some (1 : Fin 4) := rfl
  have f2 : fix_ 4 2 = some (2 : Fin 4) := rfl
  have f3 : fix_ 4 3 = some (3 : Fin 4) := rfl
  have w0 : wr .i64 1 = 1 := by decide
  have w1 : wr .i64 2 = 2 := by decide
  have w2 : wr .i64 3 = 3 := by decide
  have w3 : wr .i64 4 = 4 := by decide
  have v0 : ∀ x y : Int, (#v[x, y] : Vector Int 2).get 0 = x := fun _ _ => rfl
  have v1 : ∀ x y : Int, (#v[x, y] : Vector Int 2).get 1 = y := fun _ _ => rfl
  have u0 : ∀ x y z t : Vector Int 2, (#v[x, y, z, t] : Vector (Vector Int 2) 4).get 0 = x := fun _ _ _ _ => rfl
  have u1 : ∀ x y z t : Vector Int 2, (#v[x, y, z, t] : Vector (Vector Int 2) 4).get 1 = y := fun _ _ _ _ => rfl
  have u2 : ∀ x y z t : Vector Int 2, (#v[x, y, z, t] : Vector (Vector Int 2) 4).get 2 = z := fun _ _ _ _ => rfl
  have u3 : ∀ x y z t : Vector Int 2, (#v[x, y, z, t] : Vector (Vector Int 2) 4).get 3 = t := fun _ _ _ _ => rfl
  have h0 : lock_Compare_L1 a b 0 = if a.Seq = b.Seq then some (.inl 1) else if b.Seq < a.Seq then some (.inr (.inr 1)) else some (.inr (.inr (-1))) := by
    unfold lock_Compare_L1; simp [e0, e1, f0, letM, w0, v0, v1, u0]
  have h1 : lock_Compare_L1 a b 1 = if a.Ver = b.Ver then some (.inl 2) else if b.Ver < a.Ver then some (.inr (.inr 1)) else some (.inr (.inr (-1))) := by
    unfold lock_Compare_L1; simp [e0, e1, f1, letM, w1, v0, v1, u1]
  have h2 : lock_Compare_L1 a b 2 = if a.Holder = b.Holder then some (.inl 3) else if b.Holder < a.Holder then some (.inr (.inr 1)) else some (.inr (.inr (-1))) := by
    unfold lock_Compare_L1; simp [e0, e1, f2, letM, w2, v0, v1, u2]
  have h3 : lock_Compare_L1 a b 3 = if a.Value = b.Value then some (.inl 4) else if b.Value < a.Value then some (.inr (.inr 1)) else some (.inr (.inr (-1))) := by
    unfold lock_Compare_L1; simp [e0, e1, f3, letM, w3, v0, v1, u3]
  have h4 : lock_Compare_L1 a b 4 = some (.inr (.inl ())) := by unfold lock_Compare_L1; simp
  unfold lock_Compare lockCmp
  have hf : fuel = 1180591620717411303419 + 5 := rfl
  rw [hf]
  by_cases c0 : a.Seq = b.Seq
  · by_cases c1 : a.Ver = b.Ver
    · by_cases c2 : a.Holder = b.Holder
      · by_cases c3 : a.Value = b.Value
        · simp [loopM, h0, h1, h2, h3, h4, c0, c1, c2, c3, onS]
        · by_cases d : b.Value < a.Value <;> simp [loopM, h0, h1, h2, h3, c0, c1, c2, c3, d, onS]
      · by_cases d : b.Holder < a.Holder <;> simp [loopM, h0, h1, h2, c0, c1, c2, d, onS]
    · by_cases d : b.Ver < a.Ver <;> simp [loopM, h0, h1, c0, c1, d, onS]
  · by_cases d : b.Seq < a.Seq <;> simp [loopM, h0, c0, d, onS]
theorem lockCmp_lt (a b : TLock) : lockCmp a b < 0 ↔ LLt a b := by
  unfold lockCmp LLt
  repeat' split
  all_goals omega
theorem lock_Join_eq (a b : TLock) : lock_Join a b = some (joinL a b) := by
  unfold lock_Join joinL
  rw [lock_Compare_eq]
  simp only [Option.bind]
  by_cases h : LLt a b
  · rw [if_pos (by simpa using (lockCmp_lt a b).2 h), if_pos h]
  · rw [if_neg (by simpa using fun k => h ((lockCmp_lt a b).1 k)), if_neg h]
theorem ref05_Behind_eq (a b : TLock) : usufructref05_Behind a b = some (decide (LLt b a)) := by
  unfold usufructref05_Behind LLt
  simp only [letM_eq]
  by_cases c0 : a.Seq = b.Seq
  · rw [if_neg (by simp [c0])]
    by_cases c1 : a.Ver = b.Ver
    · rw [if_neg (by simp [c1])]
      by_cases c2 : a.Holder = b.Holder
      · rw [if_neg (by simp [c2])]
        exact sd (by simp only [decide_eq_true_eq]; omega)
      · rw [if_pos (by simp [c2])]
        exact sd (by simp only [decide_eq_true_eq]; omega)
    · rw [if_pos (by simp [c1])]
      exact sd (by simp only [decide_eq_true_eq]; omega)
  · rw [if_pos (by simp [c0])]
    exact sd (by simp only [decide_eq_true_eq]; omega)
theorem ref05_Join_eq (a b : TLock) : usufructref05_Join a b = some (joinL a b) := by
  unfold usufructref05_Join joinL
  rw [ref05_Behind_eq]
  simp only [Option.bind]
  by_cases h : LLt a b <;> simp [h]

def joinF (a b : TField) : TField × Int :=
  if a.Name = b.Name ∧ a.Kind = b.Kind ∧ a.Epoch = b.Epoch then
    (if (joinC a.Counter b.Counter).2 = 0 then (if (JS a.Holds b.Holds).2 = 0 then ({ a with Counter := (joinC a.Counter b.Counter).1, Lock := joinL a.Lock b.Lock, Holds := (JS a.Holds b.Holds).1 }, 0) else (default, (JS a.Holds b.Holds).2)) else (default, (joinC a.Counter b.Counter).2))
  else (default, 1)
theorem field_Join_eq (a b : TField) (ha : a.Holds.length ≤ 1000000) (hb : b.Holds.length ≤ 1000000) : field_Join a b = some (joinF a b) := by
  unfold field_Join joinF
  simp only [counter_Join_eq, hold_Join_eq _ _ ha hb, lock_Join_eq, letM_eq, Option.bind, zeroF]
  by_cases h : a.Name = b.Name ∧ a.Kind = b.Kind ∧ a.Epoch = b.Epoch
  · rw [if_neg (by simp [h.1, h.2.1, h.2.2]), if_pos h]
    by_cases h2 : (joinC a.Counter b.Counter).2 = 0
    · rw [if_neg (by simp [h2]), if_pos h2]
      by_cases h3 : (JS a.Holds b.Holds).2 = 0
      · rw [if_neg (by simp [h3]), if_pos h3]
      · rw [if_pos (by simp [h3]), if_neg h3]
    · rw [if_pos (by simp [h2]), if_neg h2]
  · rw [if_neg h, if_pos]
    simp only [Bool.or_eq_true, Bool.not_eq_true', decide_eq_false_iff_not]
    exact Classical.byContradiction fun k => h (by simp only [not_or, Classical.not_not] at k; exact ⟨k.1.1, k.1.2, k.2⟩)
theorem ref07_Join_eq (a b : TField) (ha : a.Holds.length ≤ 1000000) (hb : b.Holds.length ≤ 1000000) : usufructref07_Join a b = some (joinF a b) := by
  unfold usufructref07_Join joinF
  simp only [ref04_Join_eq, ref_Join_eq _ _ ha hb, ref05_Join_eq, letM_eq, Option.bind, zeroF]
  by_cases h : a.Name = b.Name ∧ a.Kind = b.Kind ∧ a.Epoch = b.Epoch
  · rw [if_neg (by simp [h.1, h.2.1, h.2.2]), if_pos h]
    by_cases h2 : (joinC a.Counter b.Counter).2 = 0
    · rw [if_neg (by simp [h2]), if_pos h2]
      by_cases h3 : (JS a.Holds b.Holds).2 = 0
      · rw [if_neg (by simp [h3]), if_pos h3]
      · rw [if_pos (by simp [h3]), if_neg h3]
    · rw [if_pos (by simp [h2]), if_neg h2]
  · rw [if_neg h, if_pos]
    simp only [Bool.or_eq_true, Bool.not_eq_true', decide_eq_false_iff_not]
    exact Classical.byContradiction fun k => h (by simp only [not_or, Classical.not_not] at k; exact ⟨k.1.1, k.1.2, k.2⟩)
theorem joinF_zero {a b : TField} (h : (joinF a b).2 = 0) : (a.Name = b.Name ∧ a.Kind = b.Kind ∧ a.Epoch = b.Epoch) ∧ (joinC a.Counter b.Counter).2 = 0 ∧ (JS a.Holds b.Holds).2 = 0 ∧ joinF a b = ({ a with Counter := (joinC a.Counter b.Counter).1, Lock := joinL a.Lock b.Lock, Holds := (JS a.Holds b.Holds).1 }, 0) := by
  unfold joinF at h ⊢
  by_cases h1 : a.Name = b.Name ∧ a.Kind = b.Kind ∧ a.Epoch = b.Epoch
  · rw [if_pos h1] at h ⊢
    by_cases h2 : (joinC a.Counter b.Counter).2 = 0
    · rw [if_pos h2] at h ⊢
      by_cases h3 : (JS a.Holds b.Holds).2 = 0
      · rw [if_pos h3]; exact ⟨h1, h2, h3, rfl⟩
      · rw [if_neg h3] at h; exact (h3 h).elim
    · rw [if_neg h2] at h; exact (h2 h).elim
  · rw [if_neg h1] at h; cases h
theorem JS_nil : JS [] [] = ([], 0) := by decide
end Go.Av
namespace Go.Av
set_option linter.unusedSectionVars false
set_option linter.unusedVariables false
set_option linter.unusedSimpArgs false

theorem awake10_eq : usufructlaw10_awake = some true := by decide +kernel
theorem wire_is_eq (v : Int) : wire_is v = some (decide (1 ≤ v ∧ v ≤ 3)) := sd (by simp)
def downS (v : Int) (f : TField) : TField × Twire_Residue × Int :=
  if FOk f then (if 1 ≤ v ∧ v ≤ 3 then ({ f with Epoch := if v < 3 then 0 else f.Epoch, Holds := if v = 1 then [] else f.Holds }, ⟨if v < 3 then f.Epoch else 0, if v = 1 then f.Holds else []⟩, 0) else (default, default, 18)) else (default, default, 1)
theorem wire_Down_eq (v : Int) (f : TField) (hs : f.Name.size ≤ 1000000000000000) (hh : f.Holds.length ≤ 1000000000) : wire_Down v f = some (downS v f) := by
  unfold wire_Down downS
  rw [field_Right_eq _ hs (by omega), wire_is_eq, app_of (by simp; omega)]
  simp only [Option.bind, letM_eq, zeroF, List.nil_append]
  by_cases h : FOk f
  · rw [if_neg (by simp [h]), if_pos h]
    by_cases h2 : 1 ≤ v ∧ v ≤ 3
    · rw [if_neg (by rw [decide_eq_true h2]; decide), if_pos h2]
      by_cases h3 : v < 3
      · by_cases h4 : v = 1 <;> simp [h3, h4]
      · have h4 : v ≠ 1 := by omega
        simp [h3, h4]
    · rw [if_pos (by rw [decide_eq_false h2]; rfl), if_neg h2]; rfl
  · rw [if_pos (by simp [h]), if_neg h]; rfl
def SaysP (v : Int) (f : TField) : Prop := FOk f ∧ (1 ≤ v ∧ v ≤ 3) ∧ (v = 3 ∨ f.Epoch = 0) ∧ (1 < v ∨ f.Holds = [])
instance (v : Int) (f : TField) : Decidable (SaysP v f) := by unfold SaysP; infer_instance
end Go.Av
namespace Go.Av
set_option linter.unusedSectionVars false
set_option linter.unusedVariables false
set_option linter.unusedSimpArgs false

theorem downS_ok {v : Int} {f : TField} (h : FOk f) (hv : 1 ≤ v ∧ v ≤ 3) : downS v f = ({ f with Epoch := if v < 3 then 0 else f.Epoch, Holds := if v = 1 then [] else f.Holds }, ⟨if v < 3 then f.Epoch else 0, if v = 1 then f.Holds else []⟩, 0) := by unfold downS; rw [if_pos h, if_pos hv]
theorem FOk_small {f : TField} (h : FOk f) : f.Name.size ≤ 8 ∧ f.Holds.length ≤ 16 := by
  refine ⟨h.1.2.2, ?_⟩
  rcases h.2.2 with g | g
  · exact g.2.2.1.2.2
  · rw [g.2.2.1]; simp
theorem down_join {v : Int} {a b : TField} (ha : FOk a) (hb : FOk b) (hv : 1 ≤ v ∧ v ≤ 3) (h : (joinF a b).2 = 0) (hj : FOk (joinF a b).1) :
    joinF (downS v a).1 (downS v b).1 = ((downS v (joinF a b).1).1, 0) ∧ JS (downS v a).2.1.Holds (downS v b).2.1.Holds = ((downS v (joinF a b).1).2.1.Holds, 0) ∧ (downS v (joinF a b).1).2.1.Epoch = (downS v a).2.1.Epoch := by
  obtain ⟨⟨h1, h2, h3⟩, h4, h5, h6⟩ := joinF_zero h
  rw [downS_ok ha hv, downS_ok hb hv, downS_ok hj hv, h6]
  have hJ : JS a.Holds b.Holds = ((JS a.Holds b.Holds).1, 0) := by rw [← h5]
  refine ⟨?_, ?_, rfl⟩
  · unfold joinF
    simp only
    have e3 : (if v < 3 then 0 else a.Epoch) = (if v < 3 then 0 else b.Epoch) := by rw [h3]
    have e5 : JS (if v = 1 then [] else a.Holds) (if v = 1 then [] else b.Holds) = (if v = 1 then [] else (JS a.Holds b.Holds).1, 0) := by
      split
      · exact JS_nil
      · exact hJ
    rw [if_pos ⟨h1, h2, e3⟩, if_pos h4, e5, if_pos rfl]
  · simp only
    split
    · exact hJ
    · exact JS_nil
theorem WireJoins_true (a1 : Int) (a2 a3 : TField) : usufructlaw10_WireJoins a1 a2 a3 = some true := by
  unfold usufructlaw10_WireJoins
  rw [Few7_eq _ (by simp), awake10_eq]
  simp only [Option.bind, letM_eq]
  by_cases hf : (∀ f ∈ [a2, a3], f.Name.size ≤ 100 ∧ f.Holds.length ≤ 40) ∧ 1 ≤ a1 ∧ a1 ≤ 3
  · obtain ⟨hf1, hv⟩ := hf
    have f2 := hf1 a2 (by simp)
    have f3 := hf1 a3 (by simp)
    have b0 : ((!decide (∀ f ∈ [a2, a3], f.Name.size ≤ 100 ∧ f.Holds.length ≤ 40)) || decide (a1 < 1) || decide (3 < a1)) = false := by
      rw [decide_eq_true hf1]; simp; omega
    simp only [b0, ref07_Right_eq a2 (show a2.Name.size ≤ 1000000000000000 by omega) (show a2.Holds.length ≤ 1000000000000 by omega), ref07_Right_eq a3 (show a3.Name.size ≤ 1000000000000000 by omega) (show a3.Holds.length ≤ 1000000000000 by omega), gd_nb, if_true, Bool.false_or]
    by_cases ha : FOk a2
    · by_cases hb : FOk a3
      · rw [if_neg (by simp [ha, hb]), ref07_Join_eq _ _ (by omega) (by omega)]
        simp only []
        by_cases hj : (joinF a2 a3).2 = 0
        · obtain ⟨⟨h1, h2, h3⟩, h4, h5, h6⟩ := joinF_zero hj
          have hl := JS_len a2.Holds a3.Holds
          have nj : (joinF a2 a3).1.Name.size ≤ 100 := by rw [h6]; exact f2.1
          have lj : (joinF a2 a3).1.Holds.length ≤ 16 := by rw [h6]; exact hl
          rw [ref07_Right_eq (joinF a2 a3).1 (by omega) (by omega)]
          simp only [gd_nb]
          by_cases hk : FOk (joinF a2 a3).1
          · obtain ⟨e1, e2, e3⟩ := down_join ha hb hv hj hk
            have dl : ∀ f : TField, FOk f → (downS a1 f).1.Holds.length ≤ 16 ∧ (downS a1 f).2.1.Holds.length ≤ 16 ∧ (downS a1 f).2.2 = 0 := fun f hf => by
              have := (FOk_small hf).2
              rw [downS_ok hf hv]
              refine ⟨?_, ?_, rfl⟩
              · show (if a1 = 1 then [] else f.Holds).length ≤ 16
                split
                · simp
                · exact this
              · show (if a1 = 1 then f.Holds else []).length ≤ 16
                split
                · exact this
                · simp
            have d2 := dl a2 ha
            have d3 := dl a3 hb
            have dj := dl _ hk
            rw [if_neg (by simp [hj, hk]), wire_Down_eq _ _ (by omega) (by omega), wire_Down_eq _ _ (by omega) (by omega), wire_Down_eq _ _ (by omega) (by omega)]
            simp only []
            rw [field_Join_eq _ _ (by omega) (by omega), ref_Join_eq _ _ (by omega) (by omega), e1, e2, d2.2.2, d3.2.2, dj.2.2, e3]
            simp only [ref07_Same_eq _ _ (show (downS a1 (joinF a2 a3).1).1.Holds.length ≤ 1000000000000000 by omega), decide_true, Bool.not_true, Bool.or_self, gd_nb, if_true, Bool.false_eq_true, if_false]
            rw [loop_all (downS a1 (joinF a2 a3).1).2.1.Holds.length (by omega) (fun i => True) false () (fun i hi => ?_) (by simp [usufructlaw10_WireJoins_L1])]
            · simp
            · simp only [usufructlaw10_WireJoins_L1, six_of hi, letM_eq, Option.bind]
              rw [if_pos (by simp; omega)]
              simp [wr_succ (show i < 1000000000000000 by omega)]
          · rw [if_pos (by simp [hj, hk])]
        · rw [gd_f (by simp [hj])]
          simp only []
          rw [if_pos (by simp [hj])]
      · rw [if_pos (by simp [ha, hb])]
    · rw [if_pos (by simp [ha])]
  · have b0 : ((!decide (∀ f ∈ [a2, a3], f.Name.size ≤ 100 ∧ f.Holds.length ≤ 40)) || decide (a1 < 1) || decide (3 < a1)) = true := by
      by_cases k : ∀ f ∈ [a2, a3], f.Name.size ≤ 100 ∧ f.Holds.length ≤ 40
      · rw [decide_eq_true k]
        have : ¬ (1 ≤ a1 ∧ a1 ≤ 3) := fun q => hf ⟨k, q⟩
        simp; omega
      · rw [decide_eq_false k]; rfl
    simp only [b0]
    rw [gd_f (by decide)]
    simp only [Bool.true_or]
    rw [gd_f (by decide)]
    simp
end Go.Av
namespace Go.Av
set_option linter.unusedSectionVars false
set_option linter.unusedVariables false
set_option linter.unusedSimpArgs false

def RN (a b : TField) : Prop := bLs a.Name b.Name = true
instance (a b : TField) : Decidable (RN a b) := by unfold RN; infer_instance
theorem RN.trans {a b c : TField} (h : RN a b) (k : RN b c) : RN a c := bLs_trans h k
def FsOk (l : List TField) : Prop := (∀ f ∈ l, FOk f) ∧ l.Pairwise RN ∧ l.length ≤ 4
instance (l : List TField) : Decidable (FsOk l) := by unfold FsOk; infer_instance
/-- Fields that may be gone through. -/
def Small (l : List TField) : Prop := l.length ≤ 1000 ∧ ∀ f ∈ l, f.Name.size ≤ 1000000 ∧ f.Holds.length ≤ 100000
theorem Small.at {l : List TField} (h : Small l) (i : Nat) : (l.getD i default).Name.size ≤ 1000000 ∧ (l.getD i default).Holds.length ≤ 100000 := by
  by_cases hi : i < l.length
  · rw [show l.getD i default = l[i] by simp [List.getD, hi]]; exact h.2 _ (List.getElem_mem hi)
  · rw [show l.getD i default = default by simp [List.getD, Nat.le_of_not_lt hi]]; decide
def LinkF (l : List TField) (i : Nat) : Prop := FOk (l.getD i default) ∧ (0 < i → RN (l.getD (i - 1) default) (l.getD i default))
instance (l : List TField) : DecidablePred (LinkF l) := fun i => by unfold LinkF; infer_instance
end Go.Av
