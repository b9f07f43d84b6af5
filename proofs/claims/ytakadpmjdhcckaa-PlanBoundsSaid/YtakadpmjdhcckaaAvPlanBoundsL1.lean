/- The plain law: what the mirrors answer. -/
import Derived.Test.YtakadpmjdhcckaaAvPlanBoundsM1
namespace Go.Av
set_option linter.unusedSectionVars false
set_option linter.unusedVariables false
set_option linter.unusedSimpArgs false

theorem fuel_big : 1000000000000000 < fuel := by decide
theorem wr_id {n : Int} (h : -9223372036854775808 ≤ n ∧ n ≤ 9223372036854775807) : wr .i64 n = n := wrap_id h.1 h.2
theorem wr_succ {i : Nat} (h : i < 1000000000000000) : wr .i64 ((i : Int) + 1) = ((i + 1 : Nat) : Int) := by rw [wr_id (by omega)]; omega
theorem six_of {α : Type} {xs : List α} {i : Nat} (h : i < xs.length) : six xs (i : Int) = some i := by simp [six]; omega
theorem app_of {α : Type} {b : Nat} {xs ys : List α} (h : (xs.length + ys.length) * b ≤ 140737488355328) : app b xs ys = some (xs ++ ys) := by simp [app, h]
@[simp] theorem gd_t {α : Type} [Inhabited α] {p : Prop} [Decidable p] {m : Option α} (h : p) : gd p m = m := by simp [gd, h]
@[simp] theorem gd_f {α : Type} [Inhabited α] {p : Prop} [Decidable p] {m : Option α} (h : ¬ p) : gd p m = some default := by simp [gd, h]
@[simp] theorem letM_eq {α β : Type} (e : α) (k : α → Option β) : letM e k = k e := rfl
@[simp] theorem onS_l {α β γ : Type} (f : α → Option γ) (g : β → Option γ) (a : α) : onS f g (.inl a) = f a := rfl
@[simp] theorem onS_r {α β γ : Type} (f : α → Option γ) (g : β → Option γ) (b : β) : onS f g (.inr b) = g b := rfl
theorem fix_of {k i : Nat} (h : i < k) : fix_ k (i : Int) = some ⟨i, h⟩ := by simp [fix_]; omega

section
variable {σ ρ : Type} {body : σ → Option (σ ⊕ ρ)}
theorem loopM_ind' (I : Nat → σ → Prop) (N : Nat) (Q : ρ → Prop) (step : ∀ i s, i < N → I i s → (∃ t, body s = some (.inl t) ∧ I (i + 1) t) ∨ (∃ r, body s = some (.inr r) ∧ Q r)) (fin : ∀ s, I N s → ∃ r, body s = some (.inr r) ∧ Q r) :
    ∀ (k i : Nat) (s : σ), i + k = N → I i s → ∀ n, k < n → ∃ r, loopM body n s = some r ∧ Q r
  | k, i, s, hk, hI, 0, hn => by omega
  | 0, i, s, hk, hI, n + 1, hn => by
    obtain rfl : i = N := by omega
    obtain ⟨r, h1, h2⟩ := fin s hI
    exact ⟨r, by simp [loopM, h1], h2⟩
  | k + 1, i, s, hk, hI, n + 1, hn => by
    rcases step i s (by omega) hI with ⟨t, h1, h2⟩ | ⟨r, h1, h2⟩
    · obtain ⟨r, h3, h4⟩ := loopM_ind' I N Q step fin k (i + 1) t (by omega) h2 n (by omega)
      exact ⟨r, by simp [loopM, h1, h3], h4⟩
    · exact ⟨r, by simp [loopM, h1], h2⟩
theorem loopM_ind (I : Nat → σ → Prop) (N : Nat) (hN : N ≤ 1000000000000000) (Q : ρ → Prop) (step : ∀ i s, i < N → I i s → (∃ t, body s = some (.inl t) ∧ I (i + 1) t) ∨ (∃ r, body s = some (.inr r) ∧ Q r))
    (fin : ∀ s, I N s → ∃ r, body s = some (.inr r) ∧ Q r) {s0 : σ} (h0 : I 0 s0) : ∃ r, loopM body fuel s0 = some r ∧ Q r :=
  loopM_ind' I N Q step fin N 0 s0 (by omega) h0 fuel (by have := fuel_big; omega)
theorem loopM_eq (I : Nat → σ → Prop) (N : Nat) (hN : N ≤ 1000000000000000) (q : ρ) (step : ∀ i s, i < N → I i s → (∃ t, body s = some (.inl t) ∧ I (i + 1) t) ∨ (body s = some (.inr q)))
    (fin : ∀ s, I N s → body s = some (.inr q)) {s0 : σ} (h0 : I 0 s0) : loopM body fuel s0 = some q := by
  obtain ⟨r, h1, rfl⟩ := loopM_ind I N hN (fun r => r = q) (fun i s hi hI => (step i s hi hI).imp id fun h => ⟨q, h, rfl⟩) (fun s hI => ⟨q, fin s hI, rfl⟩) h0
  exact h1
end

/-- A loop over numbers that stops at the first one that is told to. -/
theorem loop_find {ρ : Type} {body : Int → Option (Int ⊕ ρ)} (N : Nat) (hN : N ≤ 1000000000000000) (bad : Nat → Option ρ) (fin : ρ) (hb : ∀ i, i < N → body (i : Int) = some (match bad i with | some r => .inr r | none => .inl (((i + 1 : Nat)) : Int)))
    (hf : body (N : Int) = some (.inr fin)) : loopM body fuel 0 = some (((List.range N).findSome? bad).getD fin) := by
  refine loopM_eq (fun i s => s = (i : Int) ∧ ∀ j, j < i → bad j = none) N hN _ ?_ ?_ ⟨rfl, fun j h => by omega⟩
  · rintro i s hi ⟨rfl, hI⟩
    cases hbi : bad i with
    | none =>
      refine .inl ⟨_, by rw [hb i hi, hbi], rfl, fun j hj => ?_⟩
      rcases Nat.lt_succ_iff_lt_or_eq.1 hj with h | rfl
      · exact hI j h
      · exact hbi
    | some r =>
      refine .inr ?_
      rw [hb i hi, hbi]
      have : (List.range N).findSome? bad = some r := by
        rw [show N = i + (N - i) from by omega, List.range_add, List.findSome?_append]
        have h1 : (List.range i).findSome? bad = none := by
          rw [List.findSome?_eq_none_iff]; intro x hx; exact hI x (by simpa using hx)
        rw [h1]
        obtain ⟨m, hm⟩ : ∃ m, N - i = m + 1 := ⟨N - i - 1, by omega⟩
        rw [hm, List.range_succ_eq_map]
        simp [hbi]
      simp [this]
  · rintro s ⟨rfl, hI⟩
    rw [hf]
    have : (List.range N).findSome? bad = none := by rw [List.findSome?_eq_none_iff]; intro x hx; exact hI x (by simpa using hx)
    simp [this]

theorem foldl_range_list {α σ : Type} (xs : List α) (d : α) (g : σ → α → σ) (s0 : σ) : (List.range xs.length).foldl (fun s i => g s (xs.getD i d)) s0 = xs.foldl g s0 := by
  have : (List.range xs.length).map (fun i => xs.getD i d) = xs := by
    apply List.ext_getElem (by simp)
    intro i h1 h2
    simp [List.getD, h2]
  conv => rhs; rw [← this]
  rw [List.foldl_map]

/-- A loop over numbers that carries something along. -/
theorem loop_fold {σ ρ : Type} {body : Int × σ → Option ((Int × σ) ⊕ ρ)} (N : Nat) (hN : N ≤ 1000000000000000) (f : σ → Nat → σ) (out : σ → ρ) (J : Nat → σ → Prop) {s0 : σ} (h0 : J 0 s0)
    (hb : ∀ i s, i < N → J i s → body ((i : Int), s) = some (.inl ((((i + 1 : Nat)) : Int), f s i)) ∧ J (i + 1) (f s i)) (hf : ∀ s, J N s → body ((N : Int), s) = some (.inr (out s))) : loopM body fuel (0, s0) = some (out ((List.range N).foldl f s0)) ∧ J N ((List.range N).foldl f s0) := by
  have key : ∀ k, k ≤ N → J k ((List.range k).foldl f s0) := by
    intro k
    induction k with
    | zero => intro _; exact h0
    | succ k ih =>
      intro hk
      rw [List.range_succ, List.foldl_append]
      exact (hb k _ (by omega) (ih (by omega))).2
  refine ⟨?_, key N (Nat.le_refl _)⟩
  refine loopM_eq (fun i s => s = ((i : Int), (List.range i).foldl f s0)) N hN _ ?_ ?_ rfl
  · rintro i s hi rfl
    refine .inl ⟨_, (hb i _ hi (key i (by omega))).1, ?_⟩
    rw [List.range_succ, List.foldl_append]; rfl
  · rintro s rfl
    exact hf _ (key N (Nat.le_refl _))
end Go.Av
namespace Go.Av
set_option linter.unusedSectionVars false
set_option linter.unusedVariables false
set_option linter.unusedSimpArgs false

/-- A loop over numbers that stops at the first one that is not good. -/
theorem loop_all {ρ ξ : Type} {body : Int → Option (Int ⊕ (ξ ⊕ ρ))} (N : Nat) (hN : N ≤ 1000000000000000) (good : Nat → Prop) [DecidablePred good] (r : ρ) (x : ξ)
    (hb : ∀ i, i < N → body (i : Int) = some (if good i then .inl (((i + 1 : Nat)) : Int) else .inr (.inr r))) (hf : body (N : Int) = some (.inr (.inl x))) :
    loopM body fuel 0 = some (if ∀ i, i < N → good i then .inl x else .inr r) := by
  have h := loop_find (body := body) N hN (fun i => if good i then none else some (.inr r)) (.inl x) (fun i hi => by rw [hb i hi]; by_cases h : good i <;> simp [-List.getD_eq_getElem?_getD, h]) hf
  rw [h]
  by_cases hg : ∀ i, i < N → good i
  · have : (List.range N).findSome? (fun i => if good i then none else some (.inr r : ξ ⊕ ρ)) = none := by
      rw [List.findSome?_eq_none_iff]; intro i hi; simp [-List.getD_eq_getElem?_getD, hg i (by simpa using hi)]
    rw [this]; simp [-List.getD_eq_getElem?_getD, if_pos hg]
  · obtain ⟨v, hv⟩ : ∃ v, (List.range N).findSome? (fun i => if good i then none else some (.inr r : ξ ⊕ ρ)) = some v := by
      cases hc : (List.range N).findSome? (fun i => if good i then none else some (.inr r : ξ ⊕ ρ)) with
      | some v => exact ⟨v, rfl⟩
      | none =>
        rw [List.findSome?_eq_none_iff] at hc
        exact (hg fun i hi => by have := hc i (by simpa using hi); by_cases h : good i; exact h; simp [-List.getD_eq_getElem?_getD, h] at this).elim
    obtain ⟨i, hi, hv2⟩ := List.exists_of_findSome?_eq_some hv
    rw [hv, if_neg hg]
    by_cases h : good i <;> simp [-List.getD_eq_getElem?_getD, h] at hv2
    simp [-List.getD_eq_getElem?_getD, hv2]

def IsN (n : Int) : Prop := -1099511627776 ≤ n ∧ n ≤ 1099511627776
instance (n : Int) : Decidable (IsN n) := by unfold IsN; infer_instance
theorem sd {b : Bool} {P : Prop} [Decidable P] (h : b = true ↔ P) : some b = some (decide P) := by rw [show b = decide P from Bool.eq_iff_iff.2 (by simpa using h)]
theorem num_Is_eq (n : Int) : num_Is n = some (decide (IsN n)) := sd (by simp [-List.getD_eq_getElem?_getD, IsN])
theorem ref_Is_eq (n : Int) : usufructref01_Is n = some (decide (IsN n)) := sd (by simp [-List.getD_eq_getElem?_getD, IsN, and_comm])

theorem gd_and {p b : Bool} : gd (p = true) (some b) = some (if p = true then b else false) := by cases p <;> rfl
theorem wr_pred {i : Nat} (h0 : 0 < i) (h : i < 1000000000000000) : wr .i64 ((i : Int) - 1) = ((i - 1 : Nat) : Int) := by rw [wr_id (by omega)]; omega
end Go.Av
namespace Go.Av
set_option linter.unusedSectionVars false
set_option linter.unusedVariables false
set_option linter.unusedSimpArgs false

def Cnt (n : Int) : Prop := 0 ≤ n ∧ n ≤ 1099511627776
instance (n : Int) : Decidable (Cnt n) := by unfold Cnt; infer_instance
def HOk (h : THold) : Prop := 0 ≤ h.Replica ∧ h.Replica < 16 ∧ 1 ≤ h.Number ∧ h.Number ≤ 1099511627776 ∧ Cnt h.Amount ∧ Cnt h.Due ∧ 1 ≤ h.State ∧ h.State ≤ 3
instance (h : THold) : Decidable (HOk h) := by unfold HOk; infer_instance
theorem hold_count_eq (n : Int) : hold_count n = some (decide (Cnt n)) := by
  unfold hold_count
  rw [num_Is_eq]
  by_cases h : 0 ≤ n
  · rw [gd_t (by simp [h])]; refine sd ?_; simp only [Bool.and_eq_true, decide_eq_true_eq]; unfold IsN Cnt; omega
  · rw [gd_f (by simp [-List.getD_eq_getElem?_getD, h])]; refine sd ?_; simp [-List.getD_eq_getElem?_getD, h, Cnt]
theorem hold_Right_eq (h : THold) : hold_Right h = some (decide (HOk h)) := by
  unfold hold_Right
  simp only [num_Is_eq, hold_count_eq, letM_eq, gd_and, Option.bind]
  refine sd ?_
  simp only [Bool.and_eq_true, Bool.if_false_right, decide_eq_true_eq]
  first | unfold HOk IsN Cnt | unfold HOk Cnt
  omega
def HLt (a b : THold) : Prop := a.Replica < b.Replica ∨ (a.Replica = b.Replica ∧ a.Number < b.Number)
instance (a b : THold) : Decidable (HLt a b) := by unfold HLt; infer_instance
theorem HLt.trans {a b c : THold} (h : HLt a b) (k : HLt b c) : HLt a c := by unfold HLt at *; omega
theorem cmp_ge (a b : THold) : 0 ≤ holdCmp a b ↔ ¬ HLt a b := by
  unfold holdCmp HLt
  by_cases h : a.Replica = b.Replica
  · by_cases h1 : a.Number = b.Number
    · simp [-List.getD_eq_getElem?_getD, h, h1]
    · by_cases h2 : a.Number < b.Number <;> simp [-List.getD_eq_getElem?_getD, h, h1, h2]
  · by_cases h2 : a.Replica < b.Replica <;> simp [-List.getD_eq_getElem?_getD, h, h2]
def Rts (l : List THold) : Prop := (∀ h ∈ l, HOk h) ∧ l.Pairwise HLt ∧ l.length ≤ 16
instance (l : List THold) : Decidable (Rts l) := by unfold Rts; infer_instance
def Link (l : List THold) (i : Nat) : Prop := HOk (l.getD i default) ∧ (0 < i → HLt (l.getD (i - 1) default) (l.getD i default))
instance (l : List THold) : DecidablePred (Link l) := fun i => by unfold Link; infer_instance
theorem links_iff (l : List THold) : (∀ i, i < l.length → Link l i) ↔ (∀ h ∈ l, HOk h) ∧ l.Pairwise HLt := by
  constructor
  · intro h
    refine ⟨fun x hx => ?_, ?_⟩
    · obtain ⟨i, hi, rfl⟩ := List.getElem_of_mem hx
      simpa [List.getD, hi] using (h i hi).1
    · rw [List.pairwise_iff_getElem]
      intro i j hi hj hij
      induction j with
      | zero => omega
      | succ j ih =>
        have h1 := (h (j + 1) hj).2 (by omega)
        have e1 : l.getD (j + 1 - 1) default = l[j] := by simp [List.getD, show j < l.length by omega]
        have e2 : l.getD (j + 1) default = l[j + 1] := by simp [List.getD, hj]
        rw [e1, e2] at h1
        rcases Nat.lt_succ_iff_lt_or_eq.1 hij with h2 | rfl
        · exact (ih (by omega) h2).trans h1
        · exact h1
  · rintro ⟨h1, h2⟩ i hi
    rw [List.pairwise_iff_getElem] at h2
    refine ⟨by rw [show l.getD i default = l[i] by simp [List.getD, hi]]; exact h1 _ (List.getElem_mem hi), fun h0 => ?_⟩
    rw [show l.getD i default = l[i] by simp [List.getD, hi], show l.getD (i - 1) default = l[i - 1] by simp [List.getD, show i - 1 < l.length by omega]]
    exact h2 _ _ (by omega) hi (by omega)

theorem hold_Rights_eq (l : List THold) (hl : l.length ≤ 1000000000000000) : hold_Rights l = some (decide (Rts l)) := by
  unfold hold_Rights
  rw [loop_all l.length hl (Link l) false () (fun i hi => ?_) (by simp [-List.getD_eq_getElem?_getD, hold_Rights_L1])]
  · by_cases h : ∀ i, i < l.length → Link l i
    · rw [if_pos h]
      have := (links_iff l).1 h
      refine sd ?_
      simp only [Rts, this.1, this.2, true_and, decide_eq_true_eq]
      exact ⟨fun h => ⟨this.1, by omega⟩, fun h => by omega⟩
    · rw [if_neg h]
      have : ¬ Rts l := fun h2 => h ((links_iff l).2 ⟨h2.1, h2.2.1⟩)
      simp [-List.getD_eq_getElem?_getD, this]
  · simp only [hold_Rights_L1, hold_Right_eq, six_of hi, letM_eq, Option.bind]
    rw [if_pos (by simp; omega)]
    simp only [wr_succ (show i < 1000000000000000 by omega)]
    by_cases h1 : HOk (l.getD i default)
    · by_cases h0 : 0 < i
      · rw [gd_t (by simp [-List.getD_eq_getElem?_getD, h1, h0]), wr_pred h0 (by omega), six_of (by omega)]
        simp only [Option.bind]
        rw [gd_t (by simp [-List.getD_eq_getElem?_getD, h1, h0]), hold_compare_eq]
        simp only [Option.bind, cmp_ge, Link, h1, h0, true_and]
        by_cases h2 : HLt (l.getD (i - 1) default) (l.getD i default) <;> simp [-List.getD_eq_getElem?_getD, h2, h0]
      · obtain rfl : i = 0 := by omega
        simp [-List.getD_eq_getElem?_getD, h1, Link]
    · have : ¬ Link l i := fun h => h1 h.1
      rw [gd_f (by simp [-List.getD_eq_getElem?_getD, h1])]
      simp only [Option.bind]
      rw [gd_f (by simp [-List.getD_eq_getElem?_getD, h1])]
      simp [-List.getD_eq_getElem?_getD, h1, this]
end Go.Av
namespace Go.Av
set_option linter.unusedSectionVars false
set_option linter.unusedVariables false
set_option linter.unusedSimpArgs false

theorem loop_first {α ξ ρ : Type} [Inhabited α] {body : Int → Option (Int ⊕ (ξ ⊕ ρ))} (l : List α) (hl : l.length ≤ 1000000000000000) (p : α → Bool) (q : Nat → ρ) (x : ξ)
    (hb : ∀ i, i < l.length → body (i : Int) = some (if p (l.getD i default) = true then .inr (.inr (q i)) else .inl (((i + 1 : Nat)) : Int))) (hf : body (l.length : Int) = some (.inr (.inl x))) :
    loopM body fuel 0 = some (match l.findIdx? p with | some i => .inr (q i) | none => .inl x) := by
  refine loopM_eq (fun i s => s = (i : Int) ∧ ∀ j, j < i → p (l.getD j default) = false) l.length hl _ ?_ ?_ ⟨rfl, fun j h => by omega⟩
  · rintro i s hi ⟨rfl, hI⟩
    rw [hb i hi]
    by_cases h : p (l.getD i default) = true
    · refine .inr ?_
      rw [if_pos h]
      have : l.findIdx? p = some i := by
        rw [List.findIdx?_eq_some_iff_getElem]
        refine ⟨hi, by simpa [List.getD, hi] using h, fun j hj => ?_⟩
        have := hI j hj
        simp [List.getD, show j < l.length by omega] at this
        simp [this]
      rw [this]
    · refine .inl ⟨_, by rw [if_neg h], rfl, fun j hj => ?_⟩
      rcases Nat.lt_succ_iff_lt_or_eq.1 hj with h2 | rfl
      · exact hI j h2
      · simpa using h
  · rintro s ⟨rfl, hI⟩
    rw [hf]
    have : l.findIdx? p = none := by
      rw [List.findIdx?_eq_none_iff]
      intro y hy
      obtain ⟨i, hi, rfl⟩ := List.getElem_of_mem hy
      simpa [List.getD, hi] using hI i hi
    rw [this]

def due (r t : Int) (h : THold) : Bool := decide (h.Replica = r) && decide (h.State = 1) && decide (h.Due < t)
def ex (r t : Int) (h : THold) : THold := if due r t h = true then { h with State := 3 } else h
def isK (r n : Int) (h : THold) : Bool := decide (h.Replica = r) && decide (h.Number = n)
end Go.Av
namespace Go.Av
set_option linter.unusedSectionVars false
set_option linter.unusedVariables false
set_option linter.unusedSimpArgs false

/-- Another key. -/
def Off (h x : THold) : Prop := ¬ (h.Replica = x.Replica ∧ h.Number = x.Number)
theorem HLt.off {a b : THold} (h : HLt a b) : Off a b ∧ Off b a := by unfold HLt Off at *; omega
end Go.Av
namespace Go.Av
set_option linter.unusedSectionVars false
set_option linter.unusedVariables false
set_option linter.unusedSimpArgs false

def val (r : Int) (h : THold) : Int := if h.Replica = r ∧ h.State = 1 then h.Amount else 0
end Go.Av
namespace Go.Av
set_option linter.unusedSectionVars false
set_option linter.unusedVariables false
set_option linter.unusedSimpArgs false

def bump (x h : THold) : THold := { x with State := max x.State h.State }
def upd (l : List THold) (h : THold) : List THold := l.map fun x => if isK h.Replica h.Number x = true then bump x h else x
def fits (x h : THold) : Prop := x.Amount = h.Amount ∧ x.Due = h.Due
instance (x h : THold) : Decidable (fits x h) := by unfold fits; infer_instance
def lookH (l : List THold) (r n : Int) : Option THold := l.find? (isK r n)
def jstep (ins : List THold → THold → List THold) (m : List THold) (h : THold) : Option (List THold) :=
  match lookH m h.Replica h.Number with
  | none => some (ins m h)
  | some x => if fits x h then some (upd m h) else none

theorem isK_iff {r n : Int} {x : THold} : isK r n x = true ↔ x.Replica = r ∧ x.Number = n := by simp [isK]
theorem Off.symm {a b : THold} (h : Off a b) : Off b a := by unfold Off at *; omega
theorem lookH_none {l : List THold} {r n : Int} : lookH l r n = none ↔ ∀ x ∈ l, ¬ (x.Replica = r ∧ x.Number = n) := by
  rw [lookH, List.find?_eq_none]
  exact ⟨fun h x hx hk => h x hx (isK_iff.2 hk), fun h x hx hk => h x hx (isK_iff.1 hk)⟩
theorem upd_off {l : List THold} (h : THold) (ho : l.Pairwise Off) : (upd l h).Pairwise Off := by
  unfold upd
  rw [List.pairwise_map]
  refine ho.imp fun {a b} k => ?_
  unfold Off at *
  split <;> split <;> exact k
end Go.Av
namespace Go.Av
set_option linter.unusedSectionVars false
set_option linter.unusedVariables false
set_option linter.unusedSimpArgs false

theorem upd_key (s : List THold) (h : THold) (j : Nat) : ((upd s h).getD j default).Replica = (s.getD j default).Replica ∧ ((upd s h).getD j default).Number = (s.getD j default).Number := by
  unfold upd
  rw [List.getD, List.getD, List.getElem?_map]
  cases s[j]? with
  | none => exact ⟨rfl, rfl⟩
  | some x => simp only [Option.map_some, Option.getD_some]; split <;> exact ⟨rfl, rfl⟩
def InvJ (a b : List THold) (i : Nat) (s : List THold) : Prop :=
  s.Pairwise Off ∧ a.length ≤ s.length ∧ s.length ≤ a.length + i ∧ (∀ j, j < a.length → (s.getD j default).Replica = (a.getD j default).Replica ∧ (s.getD j default).Number = (a.getD j default).Number) ∧
    ∀ j, a.length ≤ j → j < s.length → ∃ q, q < i ∧ (s.getD j default).Replica = (b.getD q default).Replica ∧ (s.getD j default).Number = (b.getD q default).Number

theorem InvJ.step {a b s s' : List THold} {i : Nat} (hJ : InvJ a b i s) (hi : i < b.length) (hs : jstep (fun l h => l ++ [h]) s (b.getD i default) = some s') : InvJ a b (i + 1) s' := by
  obtain ⟨h1, h2, h3, h4, h5⟩ := hJ
  unfold jstep at hs
  cases hl : lookH s (b.getD i default).Replica (b.getD i default).Number with
  | none =>
    rw [hl] at hs; simp only [Option.some.injEq] at hs; subst hs
    have hn := lookH_none.1 hl
    refine ⟨?_, by simp; omega, by simp; omega, fun j hj => ?_, fun j hj hj2 => ?_⟩
    · rw [List.pairwise_append]
      refine ⟨h1, by simp, fun x hx y hy => ?_⟩
      rw [List.mem_singleton.1 hy]
      exact fun k => hn x hx k
    · rw [show (s ++ [b.getD i default]).getD j default = s.getD j default by rw [List.getD, List.getElem?_append_left (by omega)]; rfl]
      exact h4 j hj
    · by_cases hj3 : j < s.length
      · rw [show (s ++ [b.getD i default]).getD j default = s.getD j default by rw [List.getD, List.getElem?_append_left hj3]; rfl]
        obtain ⟨q, h6, h7⟩ := h5 j hj hj3
        exact ⟨q, by omega, h7⟩
      · simp only [List.length_append, List.length_singleton] at hj2
        obtain rfl : j = s.length := by omega
        rw [show (s ++ [b.getD i default]).getD s.length default = b.getD i default by rw [List.getD, List.getElem?_append_right (Nat.le_refl _), Nat.sub_self]; rfl]
        exact ⟨i, by omega, rfl, rfl⟩
  | some x =>
    rw [hl] at hs; simp only at hs
    split at hs
    · simp only [Option.some.injEq] at hs; subst hs
      have hle : (upd s (b.getD i default)).length = s.length := by simp only [upd, List.length_map]
      refine ⟨upd_off _ h1, by omega, by omega, fun j hj => ?_, fun j hj hj2 => ?_⟩
      · rw [(upd_key s _ j).1, (upd_key s _ j).2]; exact h4 j hj
      · obtain ⟨q, h6, h7⟩ := h5 j hj (by omega)
        exact ⟨q, by omega, by rw [(upd_key s _ j).1, (upd_key s _ j).2]; exact h7⟩
    · cases hs

end Go.Av
namespace Go.Av
set_option linter.unusedSectionVars false
set_option linter.unusedVariables false
set_option linter.unusedSimpArgs false

def cf : Option THold → Option THold → Prop
  | some x, some y => ¬ fits x y
  | _, _ => False
theorem fits.symm {x y : THold} (h : fits x y) : fits y x := ⟨h.1.symm, h.2.symm⟩

end Go.Av
namespace Go.Av
set_option linter.unusedSectionVars false
set_option linter.unusedVariables false
set_option linter.unusedSimpArgs false

theorem checked_eq (a : Int) (l : List Int) (hl : l.length ≤ 1000000000000) : num_checked a l = some (if ∀ x ∈ l ++ [a], IsN x then (a, 0) else (0, 2)) := by
  unfold num_checked
  rw [app_of (by simp; omega)]
  simp only [Option.bind]
  have hn : (l ++ [a]).length ≤ 1000000000000000 := by simp; omega
  generalize l ++ [a] = m at hn
  rw [loop_all m.length hn (fun i => IsN (m.getD i default)) (0, 2) () (fun i hi => ?_) (by simp [num_checked_L1])]
  · by_cases h : ∀ x ∈ m, IsN x
    · rw [if_pos (fun i hi => h _ (by simp [List.getD, hi])), if_pos h]; rfl
    · rw [if_neg (fun h2 => h fun x hx => by obtain ⟨i, hi, rfl⟩ := List.getElem_of_mem hx; simpa [List.getD, hi] using h2 i hi), if_neg h]; rfl
  · simp only [num_checked_L1, six_of hi, num_Is_eq, Option.bind]
    rw [if_pos (by simp; omega)]
    simp only [wr_succ (show i < 1000000000000000 by omega)]
    by_cases h : IsN (m.getD i default)
    · rw [if_neg (by rw [decide_eq_true h]; decide), if_pos h]
    · rw [if_pos (by rw [decide_eq_false h]; rfl), if_neg h]

def addS (a b : Int) : Int × Int := if IsN a ∧ IsN b ∧ IsN (a + b) then (a + b, 0) else (0, 2)
def subS (a b : Int) : Int × Int := if IsN a ∧ IsN b ∧ IsN (a - b) then (a - b, 0) else (0, 2)
theorem num_Add_eq (a b : Int) : num_Add a b = some (addS a b) := by
  unfold num_Add addS
  rw [checked_eq _ _ (by simp)]
  simp only [Option.bind]
  by_cases h : IsN a ∧ IsN b
  · have hw : wr .i64 (a + b) = a + b := wr_id (by unfold IsN at h; omega)
    rw [hw]
    by_cases h2 : IsN (a + b)
    · rw [if_pos (by simp [h.1, h.2, h2]), if_pos ⟨h.1, h.2, h2⟩]
    · rw [if_neg (by simp [h.1, h.2, h2]), if_neg (fun x => h2 x.2.2)]
  · rw [if_neg (fun x => h ⟨x a (by simp), x b (by simp)⟩), if_neg (fun x => h ⟨x.1, x.2.1⟩)]
theorem num_Sub_eq (a b : Int) : num_Sub a b = some (subS a b) := by
  unfold num_Sub subS
  rw [checked_eq _ _ (by simp)]
  simp only [Option.bind]
  by_cases h : IsN a ∧ IsN b
  · have hw : wr .i64 (a - b) = a - b := wr_id (by unfold IsN at h; omega)
    rw [hw]
    by_cases h2 : IsN (a - b)
    · rw [if_pos (by simp [h.1, h.2, h2]), if_pos ⟨h.1, h.2, h2⟩]
    · rw [if_neg (by simp [h.1, h.2, h2]), if_neg (fun x => h2 x.2.2)]
  · rw [if_neg (fun x => h ⟨x a (by simp), x b (by simp)⟩), if_neg (fun x => h ⟨x.1, x.2.1⟩)]
theorem ref_Add_eq (a b : Int) : usufructref01_Add a b = some (addS a b) := by
  unfold usufructref01_Add addS
  simp only [ref_Is_eq, Option.bind]
  by_cases h1 : IsN a
  · rw [gd_t (by rw [decide_eq_true h1]; rfl)]
    simp only []
    by_cases h2 : IsN b
    · have hw : wr .i64 (a + b) = a + b := wr_id (by unfold IsN at h1 h2; omega)
      rw [hw, gd_t (by rw [decide_eq_true h1, decide_eq_true h2]; rfl)]
      simp only []
      by_cases h3 : IsN (a + b)
      · rw [if_neg (by rw [decide_eq_true h1, decide_eq_true h2, decide_eq_true h3]; decide), if_pos ⟨h1, h2, h3⟩]
      · rw [if_pos (by rw [decide_eq_false h3]; simp), if_neg (fun x => h3 x.2.2)]
    · rw [gd_f (by rw [decide_eq_false h2]; simp)]
      simp only []
      rw [if_pos (by rw [decide_eq_false h2]; simp), if_neg (fun x => h2 x.2.1)]
  · rw [gd_f (by rw [decide_eq_false h1]; decide)]
    simp only []
    rw [gd_f (by rw [decide_eq_false h1]; simp)]
    simp only []
    rw [if_pos (by rw [decide_eq_false h1]; simp), if_neg (fun x => h1 x.1)]

/-- All, added; none, if it is too great on the way. -/
def sumO : Int → List Int → Option Int
  | n, [] => some n
  | n, x :: t => if (addS n x).2 = 0 then sumO (addS n x).1 t else none
def sumS (l : List Int) : Int × Int := match sumO 0 l with | some n => (n, 0) | none => (0, 2)
theorem addS_err (a b : Int) (h : (addS a b).2 ≠ 0) : (addS a b).2 = 2 := by
  by_cases hc : IsN a ∧ IsN b ∧ IsN (a + b)
  · rw [addS, if_pos hc] at h; exact (h rfl).elim
  · rw [addS, if_neg hc]
theorem sum_loop' (l : List Int) {ρ : Type} {body : Int × Int → Option ((Int × Int) ⊕ ρ)} (fin : Int → Option ρ) (er : Option ρ)
    (hb : ∀ (i : Nat) (n : Int), i < l.length → body ((i : Int), n) = if (addS n (l.getD i default)).2 = 0 then some (.inl ((((i + 1 : Nat)) : Int), (addS n (l.getD i default)).1)) else er.map .inr) (hf : ∀ n, body ((l.length : Int), n) = (fin n).map .inr) :
    ∀ (k i : Nat) (n : Int), i + k = l.length → ∀ m, k < m → loopM body m ((i : Int), n) = match sumO n (l.drop i) with | some n => fin n | none => er
  | k, i, n, hk, 0, hm => by omega
  | 0, i, n, hk, m + 1, hm => by
    obtain rfl : i = l.length := by omega
    rw [List.drop_length]
    simp only [loopM, hf, sumO]
    cases fin n <;> rfl
  | k + 1, i, n, hk, m + 1, hm => by
    have hi : i < l.length := by omega
    have hd : l.drop i = l.getD i default :: l.drop (i + 1) := by rw [List.drop_eq_getElem_cons hi]; simp [List.getD, hi]
    rw [hd, sumO]
    simp only [loopM, hb i n hi]
    by_cases h : (addS n (l.getD i default)).2 = 0
    · rw [if_pos h, if_pos h]
      exact sum_loop' l fin er hb hf k (i + 1) _ (by omega) m (by omega)
    · rw [if_neg h, if_neg h]
      cases er <;> rfl
theorem sum_loop (l : List Int) (hl : l.length ≤ 1000000000000) {ρ : Type} {body : Int × Int → Option ((Int × Int) ⊕ ρ)} (fin : Int → Option ρ) (er : Option ρ)
    (hb : ∀ (i : Nat) (n : Int), i < l.length → body ((i : Int), n) = if (addS n (l.getD i default)).2 = 0 then some (.inl ((((i + 1 : Nat)) : Int), (addS n (l.getD i default)).1)) else er.map .inr) (hf : ∀ n, body ((l.length : Int), n) = (fin n).map .inr) :
    loopM body fuel (0, 0) = match sumO 0 l with | some n => fin n | none => er :=
  sum_loop' l fin er hb hf l.length 0 0 (by omega) fuel (by have := fuel_big; omega)
theorem ref_Sum_eq1 (l : List Int) (hl : l.length ≤ 1000000000000) : usufructref01_Sum l = some (sumS l) := by
  unfold usufructref01_Sum sumS
  rw [sum_loop l hl (fun n => some (.inl n : Int ⊕ (Int × Int))) (some (.inr (0, 2))) (fun i n hi => ?_) (fun n => by simp [usufructref01_Sum_L1])]
  · cases sumO 0 l <;> rfl
  · simp only [usufructref01_Sum_L1, six_of hi, ref_Add_eq, Option.bind]
    rw [if_pos (by simp; omega)]
    simp only [wr_succ (show i < 1000000000000000 by omega)]
    by_cases h : (addS n (l.getD i default)).2 = 0
    · rw [if_neg (by rw [decide_eq_true h]; decide), if_pos h]
    · rw [if_pos (by rw [decide_eq_false h]; rfl), if_neg h, addS_err _ _ h]; rfl
theorem num_Sum_eq (l : List Int) (hl : l.length ≤ 1000000000000) : num_Sum l = some (sumS l) := by
  have h1 : num_Sum_1 l = sumO 0 l := by
    unfold num_Sum_1
    rw [sum_loop l hl (fun n => some n) none (fun i n hi => ?_) (fun n => by simp [num_Sum_1_L1])]
    · cases sumO 0 l <;> rfl
    · simp only [num_Sum_1_L1, six_of hi, num_Add_eq, num_Must, Option.bind]
      rw [if_pos (by simp; omega)]
      simp only [wr_succ (show i < 1000000000000000 by omega)]
      by_cases h : (addS n (l.getD i default)).2 = 0
      · rw [if_neg (by rw [decide_eq_true h]; decide), if_pos h]
      · rw [if_pos (by rw [decide_eq_false h]; rfl), if_neg h]; rfl
  have h2 : num_Sum_P l = match sumO 0 l with | some _ => none | none => some 2 := by
    unfold num_Sum_P
    rw [sum_loop l hl (fun n => none) (some 2) (fun i n hi => ?_) (fun n => by simp [num_Sum_P_L1])]
    simp only [num_Sum_P_L1, six_of hi, num_Add_eq, Option.bind]
    rw [if_pos (by simp; omega)]
    simp only [wr_succ (show i < 1000000000000000 by omega)]
    by_cases h : (addS n (l.getD i default)).2 = 0
    · rw [if_pos (by rw [decide_eq_true h]), if_pos h]
    · rw [if_neg (by rw [decide_eq_false h]; decide), if_neg h, addS_err _ _ h]; rfl
  unfold num_Sum sumS
  rw [h1, h2]
  cases sumO 0 l <;> rfl
end Go.Av
namespace Go.Av
set_option linter.unusedSectionVars false
set_option linter.unusedVariables false
set_option linter.unusedSimpArgs false

def VOk (v : Vector Int 16) : Prop := ∀ k : Fin 16, 0 ≤ v.get k ∧ v.get k ≤ 1099511627776
instance (v : Vector Int 16) : Decidable (VOk v) := by unfold VOk; infer_instance
def at16 (v : Vector Int 16) (i : Nat) : Int := if h : i < 16 then v.get ⟨i, h⟩ else 0
theorem VOk_iff (v : Vector Int 16) : (∀ i, i < 16 → 0 ≤ at16 v i ∧ at16 v i ≤ 1099511627776) ↔ VOk v := by
  constructor
  · intro h k
    have := h k.1 k.2
    unfold at16 at this
    rw [dif_pos k.2] at this
    exact this
  · intro h i hi
    unfold at16
    rw [dif_pos hi]
    exact h ⟨i, hi⟩
def ROk (r : TRights) : Prop := VOk r.Given ∧ VOk r.Used ∧ ∀ k : Fin 16, VOk (r.Moved.get k) ∧ (r.Moved.get k).get k = 0
instance (r : TRights) : Decidable (ROk r) := by unfold ROk; infer_instance
def row (r : TRights) (i : Nat) : Prop := ∀ h : i < 16, VOk (r.Moved.get ⟨i, h⟩) ∧ (r.Moved.get ⟨i, h⟩).get ⟨i, h⟩ = 0
instance (r : TRights) (i : Nat) : Decidable (row r i) := by unfold row; infer_instance
/-- What was given is what must be. -/
def gives (g u : Vector Int 16) (room : Int) : Prop := (sumS g.toList).2 = 0 ∧ (sumS u.toList).2 = 0 ∧ (addS room (sumS u.toList).1).2 = 0 ∧ (sumS g.toList).1 = (addS room (sumS u.toList).1).1
instance (g u : Vector Int 16) (room : Int) : Decidable (gives g u room) := by unfold gives; infer_instance
def COk (c : TCounter) : Prop := IsN c.Init ∧ IsN c.Low ∧ IsN c.High ∧ c.Low ≤ c.Init ∧ c.Init ≤ c.High ∧ ROk c.Down ∧ ROk c.Up ∧ gives c.Down.Given c.Up.Used (c.Init - c.Low) ∧ gives c.Up.Given c.Down.Used (c.High - c.Init)
instance (c : TCounter) : Decidable (COk c) := by unfold COk; infer_instance
theorem gd_nb {p : Prop} [Decidable p] {b : Bool} : gd p (some b) = some (if p then b else false) := by by_cases h : p <;> simp [gd, h]
end Go.Av
namespace Go.Av
set_option linter.unusedSectionVars false
set_option linter.unusedVariables false
set_option linter.unusedSimpArgs false

theorem foldl_app {α : Type} (g : Nat → α) : ∀ (n : Nat) (l : List α), (List.range n).foldl (fun s i => s ++ [g i]) l = l ++ (List.range n).map g
  | 0, l => by simp
  | n + 1, l => by rw [List.range_succ, List.foldl_append, foldl_app g n l]; simp
def negs (v : Vector Int 16) : List Int := (List.range 16).map fun i => wr .i64 (0 - at16 v i)
def valL (c : TCounter) : List Int := [c.Init] ++ c.Up.Used.toList ++ negs c.Down.Used
theorem counter_Value_eq (c : TCounter) : counter_Value c = some (sumS (valL c)) := by
  unfold counter_Value
  rw [app_of (by simp)]
  simp only [Option.bind]
  have hlen : ([c.Init] ++ c.Up.Used.toList).length = 17 := by simp
  have hv : (valL c).length ≤ 1000000000000 := by simp [valL, negs]
  rw [(loop_fold 16 (by omega) (fun s i => s ++ [wr .i64 (0 - at16 c.Down.Used i)]) id (fun i s => s.length = 17 + i) hlen (fun i s hi hJ => ⟨?_, by simp; omega⟩) (fun s _ => by simp [counter_Value_L1])).1]
  · simp only [id]
    rw [foldl_app]
    rw [show [c.Init] ++ c.Up.Used.toList ++ (List.range 16).map (fun i => wr .i64 (0 - at16 c.Down.Used i)) = valL c from rfl, num_Sum_eq _ hv]
  · have e : at16 c.Down.Used i = c.Down.Used.get ⟨i, hi⟩ := by unfold at16; rw [dif_pos hi]
    simp only [counter_Value_L1, fix_of hi, Option.bind]
    rw [if_pos (by simp; omega), app_of (by simp; omega)]
    simp only [wr_succ (show i < 1000000000000000 by omega), e]
theorem at16_list (v : Vector Int 16) : (List.range 16).map (at16 v) = v.toList := by
  apply List.ext_getElem (by simp)
  intro i h1 h2
  have hi : i < 16 := by simpa using h1
  rw [List.getElem_map, List.getElem_range, at16, dif_pos hi, Vector.getElem_toList]
  rfl
/-- A loop that puts sixteen numbers behind others. -/
theorem app_loop {body : Int × List Int → Option ((Int × List Int) ⊕ List Int)} (g : Nat → Int) (l : List Int) (hl : l.length ≤ 1000000) (hb : ∀ (i : Nat) (s : List Int), i < 16 → s.length ≤ 1000016 → body ((i : Int), s) = some (.inl ((((i + 1 : Nat)) : Int), s ++ [g i]))) (hf : ∀ s, body ((16 : Int), s) = some (.inr s)) :
    loopM body fuel (0, l) = some (l ++ (List.range 16).map g) := by
  rw [(loop_fold 16 (by omega) (fun s i => s ++ [g i]) id (fun i s => s.length = l.length + i) rfl (fun i s hi hJ => ⟨hb i s hi (by omega), by simp; omega⟩) (fun s _ => hf s)).1]
  simp only [id]
  rw [foldl_app]
end Go.Av
namespace Go.Av
set_option linter.unusedSectionVars false
set_option linter.unusedVariables false
set_option linter.unusedSimpArgs false

theorem ref04_Value_eq (c : TCounter) : usufructref04_Value c = some (sumS (valL c)) := by
  unfold usufructref04_Value
  rw [app_loop (at16 c.Up.Used) _ (by simp) (fun i s hi hs => ?_) (fun s => by simp [usufructref04_Value_L1])]
  · simp only [Option.bind]
    rw [app_loop (fun i => wr .i64 (0 - at16 c.Down.Used i)) _ (by simp) (fun i s hi hs => ?_) (fun s => by simp [usufructref04_Value_L2])]
    · simp only []
      rw [at16_list, show [c.Init] ++ c.Up.Used.toList ++ (List.range 16).map (fun i => wr .i64 (0 - at16 c.Down.Used i)) = valL c from rfl, ref_Sum_eq1 _ (by simp [valL, negs])]
    · have e : at16 c.Down.Used i = c.Down.Used.get ⟨i, hi⟩ := by unfold at16; rw [dif_pos hi]
      simp only [usufructref04_Value_L2, fix_of hi, Option.bind]
      rw [if_pos (by simp; omega), app_of (by simp; omega)]
      simp only [wr_succ (show i < 1000000000000000 by omega), e]
  · have e : at16 c.Up.Used i = c.Up.Used.get ⟨i, hi⟩ := by unfold at16; rw [dif_pos hi]
    simp only [usufructref04_Value_L1, fix_of hi, Option.bind]
    rw [if_pos (by simp; omega), app_of (by simp; omega)]
    simp only [wr_succ (show i < 1000000000000000 by omega), e]

end Go.Av
namespace Go.Av
set_option linter.unusedSectionVars false
set_option linter.unusedVariables false
set_option linter.unusedSimpArgs false

theorem vec_Right_eq (v : Vector Int 16) : vec_Right v = some (decide (VOk v)) := by
  unfold vec_Right
  rw [loop_all 16 (by omega) (fun i => 0 ≤ at16 v i ∧ at16 v i ≤ 1099511627776) false () (fun i hi => ?_) (by simp [vec_Right_L1])]
  · by_cases h : VOk v
    · rw [if_pos ((VOk_iff v).2 h), decide_eq_true h]; rfl
    · rw [if_neg (fun k => h ((VOk_iff v).1 k)), decide_eq_false h]; rfl
  · have e : at16 v i = v.get ⟨i, hi⟩ := by unfold at16; rw [dif_pos hi]
    simp only [vec_Right_L1, fix_of hi, num_Is_eq, Option.bind, e]
    rw [if_pos (by simp; omega)]
    simp only [wr_succ (show i < 1000000000000000 by omega)]
    by_cases h1 : v.get ⟨i, hi⟩ < 0
    · rw [gd_f (by rw [decide_eq_true h1]; decide)]
      simp only []
      rw [if_pos (by rw [decide_eq_true h1]; rfl), if_neg (by omega)]
    · rw [gd_t (by rw [decide_eq_false h1])]
      simp only []
      by_cases h2 : IsN (v.get ⟨i, hi⟩)
      · rw [if_neg (by rw [decide_eq_false h1, decide_eq_true h2]; decide), if_pos (by unfold IsN at h2; omega)]
      · rw [if_pos (by rw [decide_eq_false h2]; simp), if_neg (by unfold IsN at h2; omega)]
theorem rights_Right_eq (r : TRights) : rights_Right r = some (decide (ROk r)) := by
  unfold rights_Right
  rw [vec_Right_eq, vec_Right_eq]
  simp only [Option.bind, gd_nb]
  by_cases h : VOk r.Given ∧ VOk r.Used
  · rw [if_neg (by simp [h.1, h.2])]
    rw [loop_all 16 (by omega) (row r) false () (fun i hi => ?_) (by simp [rights_Right_L1])]
    · have hrows : (∀ i : Nat, i < 16 → row r i) ↔ ∀ k : Fin 16, VOk (r.Moved.get k) ∧ (r.Moved.get k).get k = 0 :=
        ⟨fun h k => h k.1 k.2 k.2, fun h i hi _ => h ⟨i, hi⟩⟩
      by_cases h2 : ∀ i : Nat, i < 16 → row r i
      · rw [if_pos h2, decide_eq_true (show ROk r from ⟨h.1, h.2, hrows.1 h2⟩)]; rfl
      · rw [if_neg h2, decide_eq_false (show ¬ ROk r from fun k => h2 (hrows.2 k.2.2))]; rfl
    · have hrow : row r i ↔ VOk (r.Moved.get ⟨i, hi⟩) ∧ (r.Moved.get ⟨i, hi⟩).get ⟨i, hi⟩ = 0 := ⟨fun h => h hi, fun h _ => h⟩
      simp only [rights_Right_L1, fix_of hi, vec_Right_eq, letM_eq, Option.bind]
      rw [if_pos (by simp; omega)]
      simp only [wr_succ (show i < 1000000000000000 by omega)]
      by_cases h1 : VOk (r.Moved.get ⟨i, hi⟩)
      · rw [gd_t (by rw [decide_eq_true h1]; rfl)]
        simp only []
        by_cases h2 : (r.Moved.get ⟨i, hi⟩).get ⟨i, hi⟩ = 0
        · rw [if_neg (by rw [decide_eq_true h1, decide_eq_true h2]; decide), if_pos (hrow.2 ⟨h1, h2⟩)]
        · rw [if_pos (by rw [decide_eq_false h2]; simp), if_neg (fun k => h2 (hrow.1 k).2)]
      · rw [gd_f (by rw [decide_eq_false h1]; decide)]
        simp only []
        rw [if_pos (by rw [decide_eq_false h1]; rfl), if_neg (fun k => h1 (hrow.1 k).1)]
  · have hn : ¬ ROk r := fun k => h ⟨k.1, k.2.1⟩
    rw [if_pos, decide_eq_false hn]
    by_cases h1 : VOk r.Given <;> by_cases h2 : VOk r.Used <;> simp [h1, h2]
    exact h ⟨h1, h2⟩
end Go.Av
namespace Go.Av
set_option linter.unusedSectionVars false
set_option linter.unusedVariables false
set_option linter.unusedSimpArgs false

def bAt (s : ByteArray) (i : Nat) : Int := (bix s (i : Int)).getD 0
theorem bix_of {s : ByteArray} {i : Nat} (h : i < s.size) : bix s (i : Int) = some (bAt s i) := by
  unfold bAt bix
  rw [dif_pos (by omega)]
  rfl
def NameOk (s : ByteArray) : Prop := (∀ i : Nat, i < s.size → 33 ≤ bAt s i ∧ bAt s i ≤ 126) ∧ 1 ≤ s.size ∧ s.size ≤ 8
instance (s : ByteArray) : Decidable (NameOk s) := by unfold NameOk; infer_instance
theorem field_Name_eq (s : ByteArray) (hs : s.size ≤ 1000000000000000) : field_Name s = some (decide (NameOk s)) := by
  unfold field_Name
  rw [loop_all s.size hs (fun i => 33 ≤ bAt s i ∧ bAt s i ≤ 126) false () (fun i hi => ?_) (by simp [field_Name_L1])]
  · by_cases h : ∀ i : Nat, i < s.size → 33 ≤ bAt s i ∧ bAt s i ≤ 126
    · rw [if_pos h]
      refine sd ?_
      simp only [NameOk, Bool.and_eq_true, decide_eq_true_eq]
      exact ⟨fun k => ⟨h, by omega, by omega⟩, fun k => ⟨by omega, by omega⟩⟩
    · rw [if_neg h, decide_eq_false (p := NameOk s) (fun k => h k.1)]; rfl
  · simp only [field_Name_L1, bix_of hi, Option.bind]
    rw [if_pos (by simp; omega)]
    simp only [wr_succ (show i < 1000000000000000 by omega)]
    by_cases h1 : bAt s i < 33
    · rw [gd_f (by rw [decide_eq_true h1]; decide)]
      simp only []
      rw [if_pos (by rw [decide_eq_true h1]; rfl), if_neg (by omega)]
    · rw [gd_t (by rw [decide_eq_false h1])]
      simp only []
      by_cases h2 : 126 < bAt s i
      · rw [if_pos (by rw [decide_eq_true h2]; simp), if_neg (by omega)]
      · rw [if_neg (by rw [decide_eq_false h1, decide_eq_false h2]; decide), if_pos (by omega)]

def cnt (x : Int) : Prop := 0 ≤ x ∧ IsN x
instance (x : Int) : Decidable (cnt x) := by unfold cnt; infer_instance
def LOk (l : TLock) : Prop := cnt l.Seq ∧ cnt l.Ver ∧ 0 ≤ l.Holder ∧ l.Holder ≤ 15 ∧ IsN l.Value
instance (l : TLock) : Decidable (LOk l) := by unfold LOk; infer_instance
def zeroC : TCounter := ⟨0, 0, 0, default, default⟩
def zeroL : TLock := ⟨0, 0, 0, 0⟩
def FOk (f : TField) : Prop := NameOk f.Name ∧ cnt f.Epoch ∧ ((f.Kind = 1 ∧ COk f.Counter ∧ Rts f.Holds ∧ f.Lock = zeroL) ∨ (f.Kind = 2 ∧ LOk f.Lock ∧ f.Holds = [] ∧ f.Counter = zeroC))
instance (f : TField) : Decidable (FOk f) := by unfold FOk; infer_instance
end Go.Av
namespace Go.Av
set_option linter.unusedSectionVars false
set_option linter.unusedVariables false
set_option linter.unusedSimpArgs false

def only (d : Int) : Vector Int 16 := (default : Vector Int 16).set 0 d
def newC (i l h : Int) : TCounter := ⟨i, l, h, ⟨only (i - l), default, default⟩, ⟨only (h - i), default, default⟩⟩
def NewOk (i l h : Int) : Prop := IsN i ∧ IsN l ∧ IsN h ∧ l ≤ i ∧ i ≤ h ∧ IsN (h - l)
instance (i l h : Int) : Decidable (NewOk i l h) := by unfold NewOk; infer_instance
theorem counter_New_eq (i l h : Int) : counter_New i l h = some (if NewOk i l h then (newC i l h, 0) else (zeroC, 2)) := by
  unfold counter_New
  simp only [num_Sub_eq, letM_eq, Option.bind]
  by_cases hn : NewOk i l h
  · have hn' := hn
    unfold NewOk IsN at hn'
    have e1 : subS i l = (i - l, 0) := by unfold subS; rw [if_pos ⟨hn.1, hn.2.1, by unfold IsN; omega⟩]
    have e2 : subS h i = (h - i, 0) := by unfold subS; rw [if_pos ⟨hn.2.2.1, hn.1, by unfold IsN; omega⟩]
    have e3 : subS h l = (h - l, 0) := by unfold subS; rw [if_pos ⟨hn.2.2.1, hn.2.1, hn.2.2.2.2.2⟩]
    rw [e1, e2, e3, if_neg (by simp; omega), if_pos hn]
    rfl
  · rw [if_neg hn, if_pos]
    · rfl
    · by_cases h1 : (subS i l).2 = 0
      · by_cases h2 : (subS h i).2 = 0
        · by_cases h3 : (subS h l).2 = 0
          · have g1 : IsN i ∧ IsN l ∧ IsN (i - l) := Classical.byContradiction fun k => by unfold subS at h1; rw [if_neg k] at h1; cases h1
            have g2 : IsN h ∧ IsN i ∧ IsN (h - i) := Classical.byContradiction fun k => by unfold subS at h2; rw [if_neg k] at h2; cases h2
            have g3 : IsN h ∧ IsN l ∧ IsN (h - l) := Classical.byContradiction fun k => by unfold subS at h3; rw [if_neg k] at h3; cases h3
            have e1 : subS i l = (i - l, 0) := by unfold subS; rw [if_pos g1]
            have e2 : subS h i = (h - i, 0) := by unfold subS; rw [if_pos g2]
            rw [e1, e2]
            have : i - l < 0 ∨ h - i < 0 := Classical.byContradiction fun k => hn ⟨g1.1, g1.2.1, g2.1, by omega, by omega, g3.2.2⟩
            rcases this with k | k <;> simp [k]
          · simp [h3]
        · simp [h2]
      · simp [h1]

theorem only_list (d : Int) : (only d).toList = d :: List.replicate 15 0 := rfl
theorem zero_list : (default : Vector Int 16).toList = List.replicate 16 0 := rfl
theorem sum_zeros : ∀ (k : Nat) (n : Int), IsN n → sumO n (List.replicate k 0) = some n
  | 0, n, _ => rfl
  | k + 1, n, h => by
    have e : addS n 0 = (n, 0) := by unfold addS; rw [if_pos ⟨h, by unfold IsN; omega, by simpa using h⟩]; simp
    rw [List.replicate_succ, sumO, e, if_pos rfl]
    exact sum_zeros k n h
theorem sum_only {d : Int} (h : IsN d) : sumS (only d).toList = (d, 0) := by
  have e : addS 0 d = (d, 0) := by unfold addS; rw [if_pos ⟨by unfold IsN; omega, h, by simpa using h⟩]; simp
  unfold sumS
  rw [only_list, sumO, e, if_pos rfl, sum_zeros 15 d h]
theorem sum_zero : sumS (default : Vector Int 16).toList = (0, 0) := by
  unfold sumS
  rw [zero_list, sum_zeros 16 0 (by unfold IsN; omega)]
theorem VOk_zero : VOk (default : Vector Int 16) := by decide
theorem zrows : ∀ k : Fin 16, VOk ((default : Vector (Vector Int 16) 16).get k) ∧ ((default : Vector (Vector Int 16) 16).get k).get k = 0 := by decide
theorem ROk_only {d : Int} (h0 : 0 ≤ d) (h1 : IsN d) : ROk ⟨only d, default, default⟩ := by
  refine ⟨fun k => ?_, VOk_zero, zrows⟩
  show 0 ≤ (only d).get k ∧ (only d).get k ≤ 1099511627776
  have : (only d).get k = if k.1 = 0 then d else 0 := by
    rcases k with ⟨k, hk⟩
    match k, hk with
    | 0, _ => rfl
    | 1, _ => rfl
    | 2, _ => rfl
    | 3, _ => rfl
    | 4, _ => rfl
    | 5, _ => rfl
    | 6, _ => rfl
    | 7, _ => rfl
    | 8, _ => rfl
    | 9, _ => rfl
    | 10, _ => rfl
    | 11, _ => rfl
    | 12, _ => rfl
    | 13, _ => rfl
    | 14, _ => rfl
    | 15, _ => rfl
    | n + 16, hk => exact absurd hk (by omega)
  rw [this]
  unfold IsN at h1
  split <;> omega
theorem gives_new {d : Int} (h : IsN d) : gives (only d) (default : Vector Int 16) d := by
  unfold gives
  rw [sum_only h, sum_zero]
  have e : addS d 0 = (d, 0) := by unfold addS; rw [if_pos ⟨h, by unfold IsN; omega, by simpa using h⟩]; simp
  simp only [e]
  exact ⟨trivial, trivial, trivial, trivial⟩
theorem COk_new {i l h : Int} (hn : NewOk i l h) : COk (newC i l h) := by
  have hn' := hn
  unfold NewOk IsN at hn'
  have d1 : IsN (i - l) := by unfold IsN; omega
  have d2 : IsN (h - i) := by unfold IsN; omega
  exact ⟨hn.1, hn.2.1, hn.2.2.1, hn.2.2.2.1, hn.2.2.2.2.1, ROk_only (by omega) d1, ROk_only (by omega) d2, gives_new d1, gives_new d2⟩

def LNewOk (k v : Int) : Prop := (0 ≤ k ∧ k < 16) ∧ IsN v
instance (k v : Int) : Decidable (LNewOk k v) := by unfold LNewOk; infer_instance
theorem lock_is_eq (k : Int) : lock_is k = some (decide (0 ≤ k ∧ k < 16)) := sd (by simp)
end Go.Av
namespace Go.Av
set_option linter.unusedSectionVars false
set_option linter.unusedVariables false
set_option linter.unusedSimpArgs false

def setRow (m : Vector (Vector Int 16) 16) (i : Nat) (x : Vector Int 16) : Vector (Vector Int 16) 16 := if h : i < 16 then m.set i x h else m
end Go.Av
namespace Go.Av
set_option linter.unusedSectionVars false
set_option linter.unusedVariables false
set_option linter.unusedSimpArgs false

theorem vec_Sum_eq (v : Vector Int 16) : vec_Sum v = some (sumS v.toList) := by
  unfold vec_Sum
  rw [num_Sum_eq _ (by simp)]; rfl
theorem counter_given_eq (a b : TRights) (room : Int) : counter_given a b room = some (decide (gives a.Given b.Used room)) := by
  unfold counter_given
  simp only [vec_Sum_eq, num_Add_eq, Option.bind, letM_eq]
  refine sd ?_
  simp only [Bool.and_eq_true, decide_eq_true_eq, and_assoc]
  exact Iff.rfl
theorem counter_Right_eq (c : TCounter) : counter_Right c = some (decide (COk c)) := by
  unfold counter_Right
  simp only [num_Is_eq, rights_Right_eq, counter_given_eq, Option.bind, gd_nb, letM_eq]
  by_cases h : IsN c.Init ∧ IsN c.Low ∧ IsN c.High ∧ c.Low ≤ c.Init ∧ c.Init ≤ c.High
  · obtain ⟨h1, h2, h3, h4, h5⟩ := h
    have w1 : wr .i64 (c.Init - c.Low) = c.Init - c.Low := wr_id (by unfold IsN at *; omega)
    have w2 : wr .i64 (c.High - c.Init) = c.High - c.Init := wr_id (by unfold IsN at *; omega)
    rw [if_neg (by simp [h1, h2, h3]; omega), w1, w2]
    refine sd ?_
    simp only [Bool.and_eq_true, decide_eq_true_eq, Bool.if_false_right]
    unfold COk
    constructor
    · rintro ⟨⟨⟨a, b⟩, _, d⟩, e⟩
      simp_all
    · rintro ⟨_, _, _, _, _, a, b, d, e⟩
      simp_all
  · have hn : ¬ COk c := fun k => h ⟨k.1, k.2.1, k.2.2.1, k.2.2.2.1, k.2.2.2.2.1⟩
    rw [if_pos, decide_eq_false hn]
    by_cases h1 : IsN c.Init <;> by_cases h2 : IsN c.Low <;> by_cases h3 : IsN c.High <;> by_cases h4 : c.Init < c.Low <;> by_cases h5 : c.High < c.Init <;> simp [h1, h2, h3, h4, h5]
    exact h ⟨h1, h2, h3, by omega, by omega⟩
theorem lock_Right_eq (l : TLock) : lock_Right l = some (decide (LOk l)) := by
  have h1 : ∀ n, lock_Right_1 n = some (decide (cnt n)) := fun n => by
    unfold lock_Right_1
    simp only [num_Is_eq, Option.bind, gd_nb, letM_eq]
    refine sd ?_
    simp only [Bool.and_eq_true, decide_eq_true_eq, Bool.if_false_right]
    unfold cnt
    constructor
    · rintro ⟨a, _, b⟩; exact ⟨a, b⟩
    · rintro ⟨a, b⟩; exact ⟨a, a, b⟩
  have h2 : ∀ k, lock_is k = some (decide (0 ≤ k ∧ k < 16)) := fun k => sd (by simp)
  unfold lock_Right
  simp only [h1, h2, num_Is_eq, Option.bind, gd_nb, letM_eq]
  refine sd ?_
  simp only [Bool.and_eq_true, decide_eq_true_eq, Bool.if_false_right]
  unfold LOk
  constructor
  · rintro ⟨⟨⟨a, _, b⟩, _, d⟩, e⟩
    have e2 := e.2
    exact ⟨a, b, d.1, by omega, e2⟩
  · rintro ⟨a, b, d, e, f⟩
    have e2 : l.Holder < 16 := by omega
    simp [a, b, d, e2, f]
theorem field_Right_eq (f : TField) (hs : f.Name.size ≤ 1000000000000000) (hh : f.Holds.length ≤ 1000000000000) : field_Right f = some (decide (FOk f)) := by
  unfold field_Right
  simp only [field_Name_eq _ hs, num_Is_eq, Option.bind, gd_nb, letM_eq, counter_Right_eq, hold_Rights_eq f.Holds (by omega), lock_Right_eq]
  by_cases h : NameOk f.Name ∧ cnt f.Epoch
  · obtain ⟨h1, h2⟩ := h
    have h3 : ¬ f.Epoch < 0 := by unfold cnt at h2; omega
    rw [if_neg (by simp [h1, h2.2, h3])]
    by_cases hk : f.Kind = 1
    · rw [if_pos (by simp [hk])]
      refine sd ?_
      simp only [Bool.and_eq_true, decide_eq_true_eq, Bool.if_false_right]
      unfold FOk
      constructor
      · rintro ⟨⟨a, b, c⟩, d⟩
        exact ⟨h1, h2, .inl ⟨hk, a, c, d⟩⟩
      · rintro ⟨_, _, ⟨_, a, b, c⟩ | ⟨a, _⟩⟩
        · exact ⟨⟨a, a, b⟩, c⟩
        · omega
    · rw [if_neg (by simp [hk])]
      have hz : ((f.Holds.length : Int) = 0) ↔ f.Holds = [] := by
        rw [← List.length_eq_zero_iff]; omega
      by_cases hk2 : f.Kind = 2
      · rw [if_pos (by simp [hk2])]
        refine sd ?_
        simp only [Bool.and_eq_true, decide_eq_true_eq, Bool.if_false_right]
        unfold FOk
        rw [hz]
        constructor
        · rintro ⟨⟨a, b⟩, d⟩
          exact ⟨h1, h2, .inr ⟨hk2, a, b, d⟩⟩
        · rintro ⟨_, _, ⟨a, _⟩ | ⟨a, b, c, d⟩⟩
          · omega
          · exact ⟨⟨b, c⟩, d⟩
      · rw [if_neg (by simp [hk2]), decide_eq_false]
        rintro ⟨_, _, ⟨a, _⟩ | ⟨a, _⟩⟩ <;> contradiction
  · have hn : ¬ FOk f := fun k => h ⟨k.1, k.2.1⟩
    rw [if_pos, decide_eq_false hn]
    by_cases h1 : NameOk f.Name <;> by_cases h2 : f.Epoch < 0 <;> by_cases h3 : IsN f.Epoch <;> simp [h1, h2, h3]
    exact h ⟨h1, by unfold cnt; exact ⟨by omega, h3⟩⟩

def viewS (f : TField) : Int × Int := if f.Kind = 1 then sumS (valL f.Counter) else if f.Kind = 2 then (f.Lock.Value, 0) else (0, 17)
theorem field_View_eq (f : TField) : field_View f = some (viewS f) := by
  unfold field_View viewS
  simp only [counter_Value_eq, Option.bind]
  by_cases h : f.Kind = 1
  · rw [if_pos (by simp [h]), if_pos h]
  · rw [if_neg (by simp [h]), if_neg h]
    by_cases h2 : f.Kind = 2
    · rw [if_pos (by simp [h2]), if_pos h2]
    · rw [if_neg (by simp [h2]), if_neg h2]
theorem ref07_View_eq (f : TField) : usufructref07_View f = some (viewS f) := by
  unfold usufructref07_View viewS
  simp only [ref04_Value_eq, Option.bind]
  by_cases h : f.Kind = 1
  · rw [if_pos (by simp [h]), if_pos h]
  · rw [if_neg (by simp [h]), if_neg h]
    by_cases h2 : f.Kind = 2
    · rw [if_pos (by simp [h2]), if_pos h2]
    · rw [if_neg (by simp [h2]), if_neg h2]

theorem Few7_eq (ls : List TField) (hl : ls.length ≤ 1000000000000000) : usufructlaw07_Few ls = some (decide (∀ f ∈ ls, f.Name.size ≤ 100 ∧ f.Holds.length ≤ 40)) := by
  unfold usufructlaw07_Few
  rw [loop_all ls.length hl (fun i => (ls.getD i default).Name.size ≤ 100 ∧ (ls.getD i default).Holds.length ≤ 40) false () (fun i hi => ?_) (by simp [-List.getD_eq_getElem?_getD, usufructlaw07_Few_L1])]
  · by_cases h : ∀ f ∈ ls, f.Name.size ≤ 100 ∧ f.Holds.length ≤ 40
    · rw [if_pos (fun i hi => h _ (by simp [List.getD, hi]))]
      rw [decide_eq_true h]; rfl
    · rw [if_neg (fun h2 => h fun f hx => by obtain ⟨i, hi, rfl⟩ := List.getElem_of_mem hx; simpa [List.getD, hi] using h2 i hi)]
      rw [decide_eq_false h]; rfl
  · simp only [usufructlaw07_Few_L1, six_of hi, letM_eq, Option.bind]
    rw [if_pos (by simp; omega)]
    simp only [wr_succ (show i < 1000000000000000 by omega)]
    by_cases h : (ls.getD i default).Name.size ≤ 100 ∧ (ls.getD i default).Holds.length ≤ 40
    · rw [if_neg (by simp only [Bool.or_eq_true, decide_eq_true_eq]; omega), if_pos h]
    · rw [if_pos (by simp only [Bool.or_eq_true, decide_eq_true_eq]; omega), if_neg h]
end Go.Av
namespace Go.Av
set_option linter.unusedSectionVars false
set_option linter.unusedVariables false
set_option linter.unusedSimpArgs false

def LLt (a b : TLock) : Prop := a.Seq < b.Seq ∨ (a.Seq = b.Seq ∧ (a.Ver < b.Ver ∨ (a.Ver = b.Ver ∧ (a.Holder < b.Holder ∨ (a.Holder = b.Holder ∧ a.Value < b.Value)))))
instance (a b : TLock) : Decidable (LLt a b) := by unfold LLt; infer_instance
end Go.Av
namespace Go.Av
set_option linter.unusedSectionVars false
set_option linter.unusedVariables false
set_option linter.unusedSimpArgs false

def SaysP (v : Int) (f : TField) : Prop := FOk f ∧ (1 ≤ v ∧ v ≤ 3) ∧ (v = 3 ∨ f.Epoch = 0) ∧ (1 < v ∨ f.Holds = [])
instance (v : Int) (f : TField) : Decidable (SaysP v f) := by unfold SaysP; infer_instance
end Go.Av
namespace Go.Av
set_option linter.unusedSectionVars false
set_option linter.unusedVariables false
set_option linter.unusedSimpArgs false

theorem links_gen {α : Type} [Inhabited α] {P : α → Prop} {R : α → α → Prop} (tr : ∀ {a b c : α}, R a b → R b c → R a c) (l : List α) :
    (∀ i, i < l.length → P (l.getD i default) ∧ (0 < i → R (l.getD (i - 1) default) (l.getD i default))) ↔ (∀ h ∈ l, P h) ∧ l.Pairwise R := by
  constructor
  · intro h
    refine ⟨fun x hx => ?_, ?_⟩
    · obtain ⟨i, hi, rfl⟩ := List.getElem_of_mem hx
      simpa [List.getD, hi] using (h i hi).1
    · rw [List.pairwise_iff_getElem]
      intro i j hi hj hij
      induction j with
      | zero => omega
      | succ j ih =>
        have h1 := (h (j + 1) hj).2 (by omega)
        have e1 : l.getD (j + 1 - 1) default = l[j] := by simp [List.getD, show j < l.length by omega]
        have e2 : l.getD (j + 1) default = l[j + 1] := by simp [List.getD, hj]
        rw [e1, e2] at h1
        rcases Nat.lt_succ_iff_lt_or_eq.1 hij with h2 | rfl
        · exact tr (ih (by omega) h2) h1
        · exact h1
  · rintro ⟨h1, h2⟩ i hi
    rw [List.pairwise_iff_getElem] at h2
    refine ⟨by rw [show l.getD i default = l[i] by simp [List.getD, hi]]; exact h1 _ (List.getElem_mem hi), fun h0 => ?_⟩
    rw [show l.getD i default = l[i] by simp [List.getD, hi], show l.getD (i - 1) default = l[i - 1] by simp [List.getD, show i - 1 < l.length by omega]]
    exact h2 _ _ (by omega) hi (by omega)
def RN (a b : TField) : Prop := bLs a.Name b.Name = true
instance (a b : TField) : Decidable (RN a b) := by unfold RN; infer_instance
theorem RN.trans {a b c : TField} (h : RN a b) (k : RN b c) : RN a c := bLs_trans h k
def FsOk (l : List TField) : Prop := (∀ f ∈ l, FOk f) ∧ l.Pairwise RN ∧ l.length ≤ 4
instance (l : List TField) : Decidable (FsOk l) := by unfold FsOk; infer_instance
/-- Fields that may be gone through. -/
def Small (l : List TField) : Prop := l.length ≤ 1000 ∧ ∀ f ∈ l, f.Name.size ≤ 1000000 ∧ f.Holds.length ≤ 100000
theorem Small.at {l : List TField} (h : Small l) (i : Nat) : (l.getD i default).Name.size ≤ 1000000 ∧ (l.getD i default).Holds.length ≤ 100000 := by
  by_cases hi : i < l.length
  · rw [show l.getD i default = l[i] by simp [List.getD, hi]]; exact h.2 _ (List.getElem_mem hi)
  · rw [show l.getD i default = default by simp [List.getD, Nat.le_of_not_lt hi]]; decide
def LinkF (l : List TField) (i : Nat) : Prop := FOk (l.getD i default) ∧ (0 < i → RN (l.getD (i - 1) default) (l.getD i default))
instance (l : List TField) : DecidablePred (LinkF l) := fun i => by unfold LinkF; infer_instance
theorem linksF_iff (l : List TField) : (∀ i, i < l.length → LinkF l i) ↔ (∀ f ∈ l, FOk f) ∧ l.Pairwise RN := links_gen (P := FOk) (R := RN) RN.trans l
theorem plan_Fields_eq (l : List TField) (hl : Small l) : plan_Fields l = some (decide (FsOk l)) := by
  have hn := hl.1
  unfold plan_Fields
  rw [loop_all l.length (by omega) (LinkF l) false () (fun i hi => ?_) (by simp [-List.getD_eq_getElem?_getD, plan_Fields_L1])]
  · by_cases h : ∀ i, i < l.length → LinkF l i
    · rw [if_pos h]
      have := (linksF_iff l).1 h
      refine sd ?_
      simp only [FsOk, this.2, true_and, decide_eq_true_eq]
      exact ⟨fun h => ⟨this.1, by omega⟩, fun h => by omega⟩
    · rw [if_neg h, decide_eq_false (fun h2 : FsOk l => h ((linksF_iff l).2 ⟨h2.1, h2.2.1⟩))]; rfl
  · have hs := hl.at i
    simp only [plan_Fields_L1, six_of hi, letM_eq, Option.bind, field_Right_eq _ (show (l.getD i default).Name.size ≤ 1000000000000000 by omega) (show (l.getD i default).Holds.length ≤ 1000000000000 by omega)]
    rw [if_pos (by simp; omega)]
    simp only [wr_succ (show i < 1000000000000000 by omega)]
    by_cases h1 : FOk (l.getD i default)
    · by_cases h0 : 0 < i
      · rw [gd_t (by rw [decide_eq_true h1]; simp; omega), wr_pred h0 (by omega), six_of (by omega)]
        simp only []
        by_cases h2 : RN (l.getD (i - 1) default) (l.getD i default)
        · have h2' : bLs (l.getD (i - 1) default).Name (l.getD i default).Name = true := h2
          rw [if_neg (by rw [decide_eq_true h1, h2']; simp), if_pos ⟨h1, fun _ => h2⟩]
        · have h2' : bLs (l.getD (i - 1) default).Name (l.getD i default).Name = false := by simpa [RN, -List.getD_eq_getElem?_getD] using h2
          rw [if_pos (by rw [decide_eq_true h1, h2', decide_eq_true (show (0 : Int) < (i : Int) by omega)]; rfl), if_neg (fun k => h2 (k.2 h0))]
      · obtain rfl : i = 0 := by omega
        rw [gd_f (by simp)]
        simp only []
        rw [if_neg (by rw [decide_eq_true h1]; simp), if_pos ⟨h1, fun k => by omega⟩]
    · rw [gd_f (by rw [decide_eq_false h1]; simp)]
      simp only []
      rw [if_pos (by rw [decide_eq_false h1]; rfl), if_neg (fun k => h1 k.1)]

/-- No other name. -/
def noS : ByteArray := ⟨#[]⟩
def kindOk (p : TPlan) : Prop :=
  (p.Kind = 1 ∨ p.Kind = 2) ∧ p.Other = noS ∧ 0 ≤ p.A ∧ 0 ≤ p.B ∧ 0 < p.A + p.B ∨ p.Kind = 3 ∧ p.Other = noS ∧ p.A = 0 ∧ p.B = 0 ∨ p.Kind = 4 ∧ p.Other = noS ∧ p.A ≤ p.B ∨
  p.Kind = 5 ∧ NameOk p.Other ∧ p.Other ≠ p.Name ∧ 1 ≤ p.A ∧ p.B = 0 ∨ p.Kind = 6 ∧ NameOk p.Other ∧ p.Other ≠ p.Name ∧ p.A = 0 ∧ p.B = 0
instance (p : TPlan) : Decidable (kindOk p) := by unfold kindOk; infer_instance
def PlOk (p : TPlan) : Prop := NameOk p.Name ∧ IsN p.A ∧ IsN p.B ∧ kindOk p
instance (p : TPlan) : Decidable (PlOk p) := by unfold PlOk; infer_instance
theorem obs {α β : Type} (x : α) (f : α → Option β) : Option.bind (some x) f = f x := rfl
theorem right_chain {a b c r : Prop} [Decidable a] [Decidable b] [Decidable c] [Decidable r] :
    (Option.bind (some (decide a)) fun r4 => Option.bind (gd (r4 = true) (some (decide b))) fun r5 => Option.bind (gd ((r4 && r5) = true) (some (decide c))) fun r6 =>
      Option.bind (gd (((r4 && r5) && r6) = true) (some (decide r))) fun r7 => letM (((r4 && r5) && r6) && r7) fun v8 => some v8) = some (decide (a ∧ b ∧ c ∧ r)) := by
  by_cases ha : a <;> by_cases hb : b <;> by_cases hc : c <;> by_cases hr : r <;> simp [ha, hb, hc, hr, gd, letM] <;> rfl
theorem rule1_eq (p : TPlan) : plan_rules_1 p = some (decide (p.Other = noS)) := rfl
theorem rule3_eq (p : TPlan) : plan_rules_3_rules_1 p = some (decide (p.Other = noS ∧ 0 ≤ p.A ∧ 0 ≤ p.B ∧ 0 < wr .i64 (p.A + p.B))) := by
  unfold plan_rules_3_rules_1
  rw [rule1_eq, obs]
  refine sd ?_
  simp [and_assoc]
theorem rule4_eq (p : TPlan) : plan_rules_4_rules_1 p = some (decide (p.Other = noS ∧ p.A = 0 ∧ p.B = 0)) := by
  unfold plan_rules_4_rules_1
  rw [rule1_eq, obs]
  refine sd ?_
  simp [and_assoc]
theorem rule5_eq (p : TPlan) : plan_rules_5_rules_1 p = some (decide (p.Other = noS ∧ p.A ≤ p.B)) := by
  unfold plan_rules_5_rules_1
  rw [rule1_eq, obs]
  refine sd ?_
  simp [and_assoc]
theorem rule2_eq (p : TPlan) (h : p.Other.size ≤ 1000000) : plan_rules_2 p = some (decide (NameOk p.Other ∧ p.Other ≠ p.Name)) := by
  unfold plan_rules_2
  rw [field_Name_eq _ (by omega), obs]
  refine sd ?_
  simp [and_assoc]
theorem rule6_eq (p : TPlan) (h : p.Other.size ≤ 1000000) : plan_rules_6_rules_2 p = some (decide (NameOk p.Other ∧ p.Other ≠ p.Name ∧ 1 ≤ p.A ∧ p.B = 0)) := by
  unfold plan_rules_6_rules_2
  rw [rule2_eq p h, obs]
  refine sd ?_
  simp [and_assoc]
theorem rule7_eq (p : TPlan) (h : p.Other.size ≤ 1000000) : plan_rules_7_rules_2 p = some (decide (NameOk p.Other ∧ p.Other ≠ p.Name ∧ p.A = 0 ∧ p.B = 0)) := by
  unfold plan_rules_7_rules_2
  rw [rule2_eq p h, obs]
  refine sd ?_
  simp [and_assoc]
theorem sdd {P Q : Prop} [Decidable P] [Decidable Q] (h : P ↔ Q) : some (decide P) = some (decide Q) := by rw [decide_eq_decide.2 h]
theorem plan_Right_eq (p : TPlan) (hk : inI64 p.Kind = true) (h1 : p.Name.size ≤ 1000000) (h2 : p.Other.size ≤ 1000000) : plan_Right p = some (decide (PlOk p)) := by
  have hi : i64M p.Kind = some () := by unfold i64M; rw [if_pos hk]
  unfold plan_Right
  rw [show plan_rules = some () from rfl, hi, obs, obs, field_Name_eq p.Name (by omega), num_Is_eq, num_Is_eq, rule3_eq, rule4_eq, rule5_eq, rule6_eq p h2, rule7_eq p h2]
  simp only [right_chain]
  have w : IsN p.A → IsN p.B → wr .i64 (p.A + p.B) = p.A + p.B := fun hA hB => wr_id (by unfold IsN at hA hB; omega)
  have h12 : p.Kind = 1 ∨ p.Kind = 2 → (NameOk p.Name ∧ IsN p.A ∧ IsN p.B ∧ p.Other = noS ∧ 0 ≤ p.A ∧ 0 ≤ p.B ∧ 0 < wr .i64 (p.A + p.B) ↔ PlOk p) := fun k => by
    unfold PlOk kindOk
    constructor
    · rintro ⟨a, b, c, d, e, f, g⟩
      rw [w b c] at g
      exact ⟨a, b, c, .inl ⟨k, d, e, f, g⟩⟩
    · rintro ⟨a, b, c, d⟩
      rw [w b c]
      rcases d with d | d | d | d | d
      · exact ⟨a, b, c, d.2⟩
      all_goals omega
  by_cases c1 : p.Kind = 1
  · rw [if_pos (by simp [c1])]; exact sdd (h12 (.inl c1))
  rw [if_neg (by simp [c1])]
  by_cases c2 : p.Kind = 2
  · rw [if_pos (by simp [c2])]; exact sdd (h12 (.inr c2))
  rw [if_neg (by simp [c2])]
  by_cases c3 : p.Kind = 3
  · rw [if_pos (by simp [c3])]; refine sdd ?_; unfold PlOk kindOk; simp [c3]
  rw [if_neg (by simp [c3])]
  by_cases c4 : p.Kind = 4
  · rw [if_pos (by simp [c4])]; refine sdd ?_; unfold PlOk kindOk; simp [c4]
  rw [if_neg (by simp [c4])]
  by_cases c5 : p.Kind = 5
  · rw [if_pos (by simp [c5])]; refine sdd ?_; unfold PlOk kindOk; simp [c5]
  rw [if_neg (by simp [c5])]
  by_cases c6 : p.Kind = 6
  · rw [if_pos (by simp [c6])]; refine sdd ?_; unfold PlOk kindOk; simp [c6]
  rw [if_neg (by simp [c6]), decide_eq_false]
  unfold PlOk kindOk
  simp [c1, c2, c3, c4, c5, c6]
end Go.Av
namespace Go.Av
set_option linter.unusedSectionVars false
set_option linter.unusedVariables false
set_option linter.unusedSimpArgs false

def fidx (l : List TField) (n : ByteArray) : Option Nat := l.findIdx? fun f => decide (f.Name = n)
def fnd (l : List TField) (n : ByteArray) : Option TField := l.find? fun f => decide (f.Name = n)
theorem find_idx {α : Type} [Inhabited α] (l : List α) (p : α → Bool) : l.find? p = (l.findIdx? p).map fun i => l.getD i default := by
  induction l with
  | nil => rfl
  | cons x l ih =>
    rw [List.find?_cons, List.findIdx?_cons]
    cases h : p x with
    | true => simp
    | false => rw [ih]; simp only [Bool.false_eq_true, if_false, Option.map_map]; rfl
theorem fnd_idx (l : List TField) (n : ByteArray) : fnd l n = (fidx l n).map fun i => l.getD i default := find_idx l _
theorem fidx_lt {l : List TField} {n : ByteArray} {i : Nat} (h : fidx l n = some i) : i < l.length := (List.findIdx?_eq_some_iff_getElem.1 h).1
theorem index_Field_eq (l : List TField) (n : ByteArray) (hl : l.length ≤ 1000000) : slices_IndexFunc_Field_Find_1 l n = some (match fidx l n with | some i => (i : Int) | none => -1) := by
  unfold slices_IndexFunc_Field_Find_1 fidx
  rw [loop_first l (by omega) (fun f => decide (f.Name = n)) (fun i => (i : Int)) () (fun i hi => ?_) (by simp [slices_IndexFunc_Field_Find_1_L1])]
  · cases l.findIdx? (fun f => decide (f.Name = n)) <;> rfl
  · simp only [slices_IndexFunc_Field_Find_1_L1, plan_Find_1, six_of hi, letM_eq, Option.bind]
    rw [if_pos (by simp; omega)]
    simp only [wr_succ (show i < 1000000000000000 by omega)]
    by_cases h : (l.getD i default).Name = n
    · rw [if_pos (by rw [h]; simp), if_pos (by rw [h]; simp)]
    · rw [if_neg (by rw [decide_eq_false h]; simp), if_neg (by rw [decide_eq_false h]; simp)]
theorem plan_Find_eq (l : List TField) (n : ByteArray) (hl : l.length ≤ 1000000) : plan_Find l n = some (match fidx l n with | some i => ((i : Int), true) | none => (0, false)) := by
  unfold plan_Find
  rw [index_Field_eq l n hl, obs]
  cases fidx l n with
  | none => rfl
  | some i => simp
theorem loop_first2 {α β ξ ρ : Type} [Inhabited α] {body : β × Int → Option ((β × Int) ⊕ (ξ ⊕ ρ))} (b : β) (l : List α) (hl : l.length ≤ 1000000000000000) (p : α → Bool) (q : Nat → ρ) (x : ξ)
    (hb : ∀ i, i < l.length → body (b, (i : Int)) = some (if p (l.getD i default) = true then .inr (.inr (q i)) else .inl (b, ((i + 1 : Nat) : Int)))) (hf : body (b, (l.length : Int)) = some (.inr (.inl x))) :
    loopM body fuel (b, 0) = some (match l.findIdx? p with | some i => .inr (q i) | none => .inl x) := by
  refine loopM_eq (fun i s => s = (b, (i : Int)) ∧ ∀ j, j < i → p (l.getD j default) = false) l.length hl _ ?_ ?_ ⟨rfl, fun j h => by omega⟩
  · rintro i s hi ⟨rfl, hI⟩
    rw [hb i hi]
    by_cases h : p (l.getD i default) = true
    · refine .inr ?_
      rw [if_pos h]
      have : l.findIdx? p = some i := by
        rw [List.findIdx?_eq_some_iff_getElem]
        refine ⟨hi, by simpa [List.getD, hi] using h, fun j hj => ?_⟩
        have := hI j hj
        simp [List.getD, show j < l.length by omega] at this
        simp [this]
      rw [this]
    · refine .inl ⟨_, by rw [if_neg h], rfl, fun j hj => ?_⟩
      rcases Nat.lt_succ_iff_lt_or_eq.1 hj with h2 | rfl
      · exact hI j h2
      · simpa using h
  · rintro s ⟨rfl, hI⟩
    rw [hf]
    have : l.findIdx? p = none := by
      rw [List.findIdx?_eq_none_iff]
      intro y hy
      obtain ⟨i, hi, rfl⟩ := List.getElem_of_mem hy
      simpa [List.getD, hi] using hI i hi
    rw [this]
theorem idx_any {α : Type} (l : List α) (p : α → Bool) : decide ((0 : Int) ≤ (match l.findIdx? p with | some i => (i : Int) | none => -1)) = l.any p := by
  have h : (l.findIdx? p).isSome = l.any p := by simp
  rw [← h]
  cases l.findIdx? p with
  | none => rfl
  | some i => simp
def offK (k : Int) (f : TField) : Bool := !decide (f.Kind = k)
theorem cont_kind_eq (l : List TField) (b : Int) (hl : l.length ≤ 1000000) : slices_ContainsFunc_Field_Fits_1 l b = some (l.any (offK b), b) := by
  unfold slices_ContainsFunc_Field_Fits_1 slices_IndexFunc_Field_Fits_1
  rw [loop_first2 b l (by omega) (offK b) (fun i => ((i : Int), b)) b (fun i hi => ?_) (by simp [slices_IndexFunc_Field_Fits_1_L1])]
  · rw [← idx_any l (offK b)]
    cases l.findIdx? (offK b) <;> rfl
  · simp only [slices_IndexFunc_Field_Fits_1_L1, plan_Fits_1, six_of hi, letM_eq, Option.bind]
    rw [if_pos (by simp; omega)]
    simp only [wr_succ (show i < 1000000000000000 by omega)]
    by_cases h : offK b (l.getD i default) = true
    · rw [if_pos (by simpa only [offK] using h), if_pos h]
    · rw [if_neg (by simpa only [offK] using h), if_neg h]
def isH (h : THold) : Bool := decide (h.State = 1)
def heldF (f : TField) : Bool := f.Holds.any isH
theorem cont_hold_eq (l : List THold) (hl : l.length ≤ 1000000) : slices_ContainsFunc_Hold_Fits_2 l = some (l.any isH) := by
  unfold slices_ContainsFunc_Hold_Fits_2 slices_IndexFunc_Hold_Fits_2
  rw [loop_first l (by omega) isH (fun i => (i : Int)) () (fun i hi => ?_) (by simp [slices_IndexFunc_Hold_Fits_2_L1])]
  · rw [← idx_any l isH]
    cases l.findIdx? isH <;> rfl
  · simp only [slices_IndexFunc_Hold_Fits_2_L1, plan_Fits_2, six_of hi, letM_eq, Option.bind]
    rw [if_pos (by simp; omega)]
    simp only [wr_succ (show i < 1000000000000000 by omega)]
    by_cases h : isH (l.getD i default) = true
    · rw [if_pos (by simpa only [isH] using h), if_pos h]
    · rw [if_neg (by simpa only [isH] using h), if_neg h]
theorem cont_held_eq (l : List TField) (hl : Small l) : slices_ContainsFunc_Field_Fits_3_Fits_2 l = some (l.any heldF) := by
  have hn := hl.1
  unfold slices_ContainsFunc_Field_Fits_3_Fits_2 slices_IndexFunc_Field_Fits_3_Fits_2
  rw [loop_first l (by omega) heldF (fun i => (i : Int)) () (fun i hi => ?_) (by simp [slices_IndexFunc_Field_Fits_3_Fits_2_L1])]
  · rw [← idx_any l heldF]
    cases l.findIdx? heldF <;> rfl
  · have hs := hl.at i
    simp only [slices_IndexFunc_Field_Fits_3_Fits_2_L1, plan_Fits_3_Fits_2, cont_hold_eq _ (show (l.getD i default).Holds.length ≤ 1000000 by omega), six_of hi, letM_eq, Option.bind]
    rw [if_pos (by simp; omega)]
    simp only [wr_succ (show i < 1000000000000000 by omega)]
    by_cases h : heldF (l.getD i default) = true
    · rw [if_pos (by simpa only [heldF] using h), if_pos h]
    · rw [if_neg (by simpa only [heldF] using h), if_neg h]
/-- What a plan is about. -/
def tch (l : List TField) (p : TPlan) : Option (List TField) :=
  match fnd l p.Name with
  | none => none
  | some f => if p.Kind = 6 then (match fnd l p.Other with | none => none | some g => some [f, g]) else some [f]
theorem fits_step (l : List TField) (hl : l.length ≤ 1000000) (ns : List ByteArray) (i : Nat) (hi : i < ns.length) (h2 : ns.length ≤ 1000) (acc : List TField) (ha : acc.length ≤ 1000) :
    plan_Fits_L1 l ns ((i : Int), acc) = match fnd l (ns.getD i default) with | none => some (.inr (.inr 10)) | some f => some (.inl (((i + 1 : Nat) : Int), acc ++ [f])) := by
  simp only [plan_Fits_L1, six_of hi, obs, plan_Find_eq l _ hl, fnd_idx]
  rw [if_pos (by simp; omega)]
  cases h : fidx l (ns.getD i default) with
  | none => simp
  | some k =>
    simp only [Option.map_some]
    rw [if_neg (by simp), six_of (fidx_lt h), obs, letM_eq, app_of (by simp; omega), obs]
    simp only [wr_succ (show i < 1000000000000000 by omega)]
theorem fits_end (l : List TField) (ns : List ByteArray) (acc : List TField) : plan_Fits_L1 l ns ((ns.length : Int), acc) = some (.inr (.inl acc)) := by
  simp [plan_Fits_L1]
theorem loop_go {σ ρ : Type} {body : σ → Option (σ ⊕ ρ)} {n : Nat} {s t : σ} (h : body s = some (.inl t)) : loopM body (n + 1) s = loopM body n t := by simp only [loopM, h]
theorem loop_out {σ ρ : Type} {body : σ → Option (σ ⊕ ρ)} {n : Nat} {s : σ} {r : ρ} (h : body s = some (.inr r)) : loopM body (n + 1) s = some r := by simp only [loopM, h]
theorem fuel3 : ∃ n, fuel = n + 1 + 1 + 1 := ⟨1180591620717411303421, rfl⟩
theorem fits_loop (l : List TField) (hl : l.length ≤ 1000000) (p : TPlan) : loopM (plan_Fits_L1 l (if (decide (p.Kind = 6)) = true then [p.Name, p.Other] else [p.Name])) fuel (0, ([] : List TField)) = some (match tch l p with | some t => .inl t | none => .inr 10) := by
  obtain ⟨n, hf⟩ := fuel3
  rw [hf]
  unfold tch
  by_cases h6 : p.Kind = 6
  · rw [if_pos (by simp [h6])]
    simp only [if_pos h6]
    have s0 := fits_step l hl [p.Name, p.Other] 0 (by simp) (by simp) [] (by simp)
    simp only [List.getD_cons_zero] at s0
    cases h : fnd l p.Name with
    | none => rw [h] at s0; exact loop_out s0
    | some f =>
      rw [h] at s0
      have s1 := fits_step l hl [p.Name, p.Other] 1 (by simp) (by simp) [f] (by simp)
      simp only [List.getD_cons_succ, List.getD_cons_zero] at s1
      refine (loop_go s0).trans ?_
      cases h2 : fnd l p.Other with
      | none => rw [h2] at s1; exact loop_out s1
      | some g =>
        rw [h2] at s1
        exact (loop_go s1).trans (loop_out (fits_end l [p.Name, p.Other] [f, g]))
  · rw [if_neg (by simp [h6])]
    simp only [if_neg h6]
    have s0 := fits_step l hl [p.Name] 0 (by simp) (by simp) [] (by simp)
    simp only [List.getD_cons_zero] at s0
    cases h : fnd l p.Name with
    | none => rw [h] at s0; exact loop_out s0
    | some f =>
      rw [h] at s0
      exact (loop_go s0).trans (loop_out (fits_end l [p.Name] [f]))
def chkS (t : List TField) (k : Int) : Int := if t.any (offK k) = true then 17 else if t.any heldF = true then 12 else 0
def fitsS (l : List TField) (p : TPlan) : Int :=
  if FsOk l then (if PlOk p then (match tch l p with
    | none => 10
    | some t => if p.Kind = 5 then (if (fidx l p.Other).isSome = true then 11 else if l.length = 4 then 7 else chkS t 1) else if p.Kind = 4 then chkS t 2 else chkS t 1) else 14) else 1
theorem fnd_mem {l : List TField} {n : ByteArray} {f : TField} (h : fnd l n = some f) : f ∈ l := List.mem_of_find?_eq_some h
theorem fnd_name {l : List TField} {n : ByteArray} {f : TField} (h : fnd l n = some f) : f.Name = n := by simpa using List.find?_some h
theorem tch_small {l : List TField} {p : TPlan} {t : List TField} (hl : Small l) (h : tch l p = some t) : Small t := by
  unfold tch at h
  cases h1 : fnd l p.Name with
  | none => rw [h1] at h; simp at h
  | some f =>
    rw [h1] at h
    have k1 := hl.2 f (fnd_mem h1)
    by_cases h6 : p.Kind = 6
    · simp only [if_pos h6] at h
      cases h2 : fnd l p.Other with
      | none => rw [h2] at h; simp at h
      | some g =>
        rw [h2] at h
        have k2 := hl.2 g (fnd_mem h2)
        simp only [Option.some.injEq] at h
        subst h
        exact ⟨by simp, by simpa using ⟨k1, k2⟩⟩
    · simp only [if_neg h6, Option.some.injEq] at h
      subst h
      exact ⟨by simp, by simpa using k1⟩
theorem plan_Fits_eq (l : List TField) (p : TPlan) (hl : Small l) (hk : inI64 p.Kind = true) (h1 : p.Name.size ≤ 1000000) (h2 : p.Other.size ≤ 1000000) : plan_Fits l p = some (fitsS l p) := by
  have hn := hl.1
  unfold plan_Fits fitsS
  rw [plan_Fields_eq l hl, obs]
  by_cases c1 : FsOk l
  rotate_left
  · rw [if_neg c1, if_pos (by simp [c1])]
  rw [if_pos c1, if_neg (by simp [c1]), plan_Right_eq p hk h1 h2, obs]
  by_cases c2 : PlOk p
  rotate_left
  · rw [if_neg c2, if_pos (by simp [c2])]
  rw [if_pos c2, if_neg (by simp [c2])]
  have hnm : plan_names p = some (if (decide (p.Kind = 6)) = true then [p.Name, p.Other] else [p.Name]) := by unfold plan_names; split <;> rfl
  rw [hnm, obs, fits_loop l (by omega) p, obs]
  cases ht : tch l p with
  | none => rfl
  | some t =>
    have hts := tch_small hl ht
    have ht1 := hts.1
    simp only [onS, plan_Find_eq l _ (show l.length ≤ 1000000 by omega), obs, letM_eq, cont_kind_eq t _ (show t.length ≤ 1000000 by omega), cont_held_eq t hts]
    have hi : (match fidx l p.Other with | some i => ((i : Int), true) | none => (0, false)).2 = (fidx l p.Other).isSome := by cases fidx l p.Other <;> rfl
    have h4 : decide ((l.length : Int) = 4) = decide (l.length = 4) := decide_eq_decide.2 (by omega)
    rw [hi, h4]
    have e : ∀ k : Int, (if t.any (offK k) = true then some 17 else if t.any heldF = true then some 12 else some 0) = some (chkS t k) := fun k => by
      unfold chkS
      by_cases c : t.any (offK k) = true
      · rw [if_pos c, if_pos c]
      · rw [if_neg c, if_neg c]
        by_cases d : t.any heldF = true
        · rw [if_pos d, if_pos d]
        · rw [if_neg d, if_neg d]
    rw [e 1, e 2]
    by_cases k5 : p.Kind = 5
    · rw [if_pos (by simp [k5]), if_pos k5]
      cases (fidx l p.Other).isSome with
      | true => rfl
      | false =>
        have n4 : ¬ (decide (p.Kind = 4) = true) := by simp [k5]
        have nf : ¬ (false = true) := by simp
        rw [if_neg nf, if_neg nf, if_neg n4]
        by_cases k7 : l.length = 4
        · rw [if_pos (by simp [k7]), if_pos k7]
        · rw [if_neg (by simp [k7]), if_neg k7]
    · rw [if_neg (by simp [k5]), if_neg k5]
      by_cases k4 : p.Kind = 4
      · rw [if_pos (by simp [k4]), if_pos k4]
      · rw [if_neg (by simp [k4]), if_neg k4]
end Go.Av
namespace Go.Av
set_option linter.unusedSectionVars false
set_option linter.unusedVariables false
set_option linter.unusedSimpArgs false

def nilF : TField := ⟨(default : ByteArray), 0, 0, (default : TCounter), (default : TLock), ([] : List THold)⟩
def madeOk (e v lo hi : Int) : Prop := IsN e ∧ IsN v ∧ IsN lo ∧ IsN hi ∧ IsN (hi - lo)
instance (e v lo hi : Int) : Decidable (madeOk e v lo hi) := by unfold madeOk; infer_instance
def madeF (n : ByteArray) (e v lo hi : Int) : TField := ⟨n, 1, e, newC v lo hi, (default : TLock), ([] : List THold)⟩
def madeS (n : ByteArray) (e v lo hi : Int) : TField × Int := if madeOk e v lo hi then (if NewOk v lo hi then (madeF n e v lo hi, 0) else (nilF, 14)) else (nilF, 2)
theorem all5 {P : Int → Prop} (a b c d e : Int) : (∀ i, i < 5 → P ([a, b, c, d, e].getD i default)) ↔ P a ∧ P b ∧ P c ∧ P d ∧ P e := by
  constructor
  · intro h
    exact ⟨h 0 (by omega), h 1 (by omega), h 2 (by omega), h 3 (by omega), h 4 (by omega)⟩
  · rintro ⟨h0, h1, h2, h3, h4⟩ i hi
    match i, hi with
    | 0, _ => exact h0
    | 1, _ => exact h1
    | 2, _ => exact h2
    | 3, _ => exact h3
    | 4, _ => exact h4
theorem plan_made_eq (n : ByteArray) (e v lo hi : Int) : plan_made n e v lo hi = some (madeS n e v lo hi) := by
  unfold plan_made madeS
  rw [loop_all 5 (by omega) (fun i => IsN ([e, v, lo, hi, wr .i64 (hi - lo)].getD i default)) (nilF, 2) () (fun i hi' => ?_) (by simp [-List.getD_eq_getElem?_getD, plan_made_L1])]
  · have A := all5 (P := IsN) e v lo hi (wr .i64 (hi - lo))
    by_cases h : IsN e ∧ IsN v ∧ IsN lo ∧ IsN hi
    · have w : wr .i64 (hi - lo) = hi - lo := wr_id (by have := h.2.2; unfold IsN at this; omega)
      by_cases h5 : IsN (hi - lo)
      · have h' : madeOk e v lo hi := ⟨h.1, h.2.1, h.2.2.1, h.2.2.2, h5⟩
        rw [if_pos (A.2 ⟨h.1, h.2.1, h.2.2.1, h.2.2.2, by rw [w]; exact h5⟩), if_pos h']
        simp only [onS, obs, counter_New_eq, letM_eq]
        by_cases h6 : NewOk v lo hi
        · rw [if_pos h6, if_pos h6]; rfl
        · rw [if_neg h6, if_neg h6]; rfl
      · rw [if_neg (fun k => h5 (w ▸ (A.1 k).2.2.2.2)), if_neg (fun k : madeOk e v lo hi => h5 k.2.2.2.2)]; rfl
    · rw [if_neg (fun k => h ⟨(A.1 k).1, (A.1 k).2.1, (A.1 k).2.2.1, (A.1 k).2.2.2.1⟩), if_neg (fun k : madeOk e v lo hi => h ⟨k.1, k.2.1, k.2.2.1, k.2.2.2.1⟩)]; rfl
  · have hs : ([e, v, lo, hi, wr .i64 (hi - lo)] : List Int).length = 5 := rfl
    simp only [plan_made_L1, six_of (xs := [e, v, lo, hi, wr .i64 (hi - lo)]) (show i < _ from hi'), letM_eq, obs, num_Is_eq]
    rw [if_pos (by simp [-List.getD_eq_getElem?_getD]; omega)]
    simp only [wr_succ (show i < 1000000000000000 by omega)]
    by_cases h : IsN ([e, v, lo, hi, wr .i64 (hi - lo)].getD i default)
    · rw [if_neg (by rw [decide_eq_true h]; simp), if_pos h]
    · rw [if_pos (by rw [decide_eq_false h]; rfl), if_neg h]; rfl
def oneS (v lo hi : Int) (f : TField) (e : Int) : List TField × Int := ([(madeS f.Name e v lo hi).1], (madeS f.Name e v lo hi).2)
theorem one_eq (v lo hi : Int) (f : TField) (e : Int) : plan_change_1_own v lo hi f e = some ((oneS v lo hi f e).1, (oneS v lo hi f e).2, e) := by
  unfold plan_change_1_own
  rw [plan_made_eq]; rfl
def overS (f : TField) (p : TPlan) : Int := max 0 (wr .i64 ((viewS f).1 - wr .i64 (f.Counter.High - p.A)))
/-- What a plan makes of a field, and another one. -/
def changeS (f g : TField) (p : TPlan) : List TField × Int :=
  if (viewS f).2 ≠ 0 ∨ ((viewS g).2 ≠ 0 ∧ p.Kind = 6) then ([], 2)
  else if p.Kind = 1 then oneS (viewS f).1 (wr .i64 (f.Counter.Low + p.A)) (wr .i64 (f.Counter.High - p.B)) f (wr .i64 (f.Epoch + 1))
  else if p.Kind = 2 then oneS (viewS f).1 (wr .i64 (f.Counter.Low - p.A)) (wr .i64 (f.Counter.High + p.B)) f (wr .i64 (f.Epoch + 1))
  else if p.Kind = 4 then oneS (viewS f).1 p.A p.B f (wr .i64 (f.Epoch + 1))
  else if p.Kind = 6 then oneS (wr .i64 ((viewS f).1 + (viewS g).1)) (wr .i64 (f.Counter.Low + g.Counter.Low)) (wr .i64 (f.Counter.High + g.Counter.High)) f (wr .i64 (max f.Epoch g.Epoch + 1))
  else if p.Kind = 5 then
    (if (madeS p.Other (wr .i64 (f.Epoch + 1)) (overS f p) 0 p.A).2 = 0 then
      ((oneS (wr .i64 ((viewS f).1 - overS f p)) f.Counter.Low (wr .i64 (f.Counter.High - p.A)) f (wr .i64 (f.Epoch + 1))).1 ++ [(madeS p.Other (wr .i64 (f.Epoch + 1)) (overS f p) 0 p.A).1],
        (oneS (wr .i64 ((viewS f).1 - overS f p)) f.Counter.Low (wr .i64 (f.Counter.High - p.A)) f (wr .i64 (f.Epoch + 1))).2)
      else ([], (madeS p.Other (wr .i64 (f.Epoch + 1)) (overS f p) 0 p.A).2))
  else if IsN (viewS f).1 ∧ IsN (wr .i64 (f.Epoch + 1)) then ([⟨f.Name, 2, wr .i64 (f.Epoch + 1), (default : TCounter), ⟨0, 0, 0, (viewS f).1⟩, ([] : List THold)⟩], 0) else ([], 2)
theorem lock_New0 (v : Int) : lock_New 0 v = some (if IsN v then (⟨0, 0, 0, v⟩, 0) else (zeroL, 2)) := by
  unfold lock_New
  rw [lock_is_eq, obs, if_neg (by simp), num_Is_eq, obs]
  by_cases h : IsN v
  · rw [if_neg (by simp [h]), if_pos h]; rfl
  · rw [if_pos (by simp [h]), if_neg h]; rfl
theorem plan_change_eq (f g : TField) (p : TPlan) : plan_change_own f g p = some (changeS f g p) := by
  unfold plan_change_own changeS
  simp only [field_View_eq, obs, letM_eq, one_eq, plan_made_eq, lock_New0, num_Is_eq]
  by_cases h1 : (viewS f).2 ≠ 0 ∨ ((viewS g).2 ≠ 0 ∧ p.Kind = 6)
  · rw [if_pos h1, if_pos]
    simpa using h1
  rw [if_neg h1, if_neg (by simpa using h1)]
  by_cases c1 : p.Kind = 1
  · rw [if_pos (by simp [c1]), if_pos c1]
  rw [if_neg (by simp [c1]), if_neg c1]
  by_cases c2 : p.Kind = 2
  · rw [if_pos (by simp [c2]), if_pos c2]
  rw [if_neg (by simp [c2]), if_neg c2]
  by_cases c4 : p.Kind = 4
  · rw [if_pos (by simp [c4]), if_pos c4]
  rw [if_neg (by simp [c4]), if_neg c4]
  by_cases c6 : p.Kind = 6
  · rw [if_pos (by simp [c6]), if_pos c6]
  rw [if_neg (by simp [c6]), if_neg c6]
  by_cases c5 : p.Kind = 5
  · rw [if_pos (by simp [c5]), if_pos c5]
    change (if (!decide ((madeS p.Other (wr .i64 (f.Epoch + 1)) (overS f p) 0 p.A).2 = 0)) = true then _ else _) = _
    by_cases h : (madeS p.Other (wr .i64 (f.Epoch + 1)) (overS f p) 0 p.A).2 = 0
    · rw [if_pos h, if_neg (by simp [h]), app_of (by simp [oneS]), obs]; rfl
    · rw [if_neg h, if_pos (by simp [h])]; rfl
  rw [if_neg (by simp [c5]), if_neg c5]
  by_cases h : IsN (viewS f).1
  · rw [if_pos h]
    by_cases h2 : IsN (wr .i64 (f.Epoch + 1))
    · rw [if_pos ⟨h, h2⟩, gd_t (by simp), obs, if_neg (by simp [h2])]
    · rw [if_neg (fun k => h2 k.2), gd_t (by simp), obs, if_pos (by simp [h2])]
  · rw [if_neg h, if_neg (fun k => h k.1), gd_f (by simp), obs, if_pos (by simp)]
def tchB (p : TPlan) (n : ByteArray) : Bool := decide (n = p.Name) || (!decide (p.Other = noS) && decide (n = p.Other))
theorem plan_Touched_eq (p : TPlan) (n : ByteArray) : plan_Touched p n = some (tchB p n) := rfl
/-- What a plan is not about. -/
def rest (l : List TField) (p : TPlan) : List TField := l.filter fun f => !tchB p f.Name
def applyS (l : List TField) (p : TPlan) : List TField × Int :=
  if fitsS l p = 0 then
    (if (changeS ((fnd l p.Name).getD nilF) ((fnd l p.Other).getD nilF) p).2 = 0 then (sortF planCmp ((changeS ((fnd l p.Name).getD nilF) ((fnd l p.Other).getD nilF) p).1 ++ rest l p), 0)
      else ([], (changeS ((fnd l p.Name).getD nilF) ((fnd l p.Other).getD nilF) p).2))
  else ([], fitsS l p)
theorem foldl_rest (l : List TField) (p : TPlan) (a : List TField) : l.foldl (fun s f => if tchB p f.Name = true then s else s ++ [f]) a = a ++ rest l p := by
  induction l generalizing a with
  | nil => simp [rest]
  | cons x l ih =>
    rw [List.foldl_cons, ih]
    unfold rest
    rw [List.filter_cons]
    by_cases h : tchB p x.Name = true <;> simp [h]
theorem changeS_len (f g : TField) (p : TPlan) : (changeS f g p).1.length ≤ 2 := by
  unfold changeS oneS
  repeat' split
  all_goals simp
theorem apply_loop {body : Int × List TField → Option ((Int × List TField) ⊕ List TField)} (l : List TField) (p : TPlan) (hl : Small l) (a : List TField) (ha : a.length ≤ 1000)
    (hb : ∀ i s, body (i, s) = if (decide (i < (l.length : Int))) = true then
            Option.bind (six l i) fun j14 =>
            letM (l.getD j14 default) fun v15 =>
            Option.bind (plan_Touched p v15.Name) fun r16 =>
            if (!r16) = true then
              Option.bind (app 40 [] v15.Holds) fun r17 =>
              letM ({ v15 with Holds := r17 }) fun v18 =>
              Option.bind (app 4720 s [v18]) fun l19 =>
              some (.inl ((wr .i64 (i + 1)), l19))
            else
              some (.inl ((wr .i64 (i + 1)), s))
          else
            some (.inr s)) : loopM body fuel (0, a) = some (a ++ rest l p) := by
  have hn := hl.1
  rw [← foldl_rest, ← foldl_range_list l default]
  refine (loop_fold l.length (by omega) (fun s i => if tchB p (l.getD i default).Name = true then s else s ++ [l.getD i default]) (fun s => s) (fun i s => s.length ≤ 1000 + i) (by simpa using ha) (fun i s hi hs => ?_) (fun s hs => ?_)).1
  · have hh := hl.at i
    rw [hb, if_pos (by simp; omega), six_of hi, obs, letM_eq, plan_Touched_eq, obs]
    simp only [wr_succ (show i < 1000000000000000 by omega)]
    by_cases h : tchB p (l.getD i default).Name = true
    · rw [if_neg (by rw [h]; simp), if_pos h]
      exact ⟨rfl, by omega⟩
    · rw [if_pos (by simpa using h), if_neg h, app_of (by simp only [List.length_nil]; omega), obs, letM_eq, app_of (by simp only [List.length_cons, List.length_nil]; omega), obs]
      exact ⟨rfl, by simp; omega⟩
  · rw [hb, if_neg (by simp)]
theorem fits_found {l : List TField} {p : TPlan} (h : fitsS l p = 0) : FsOk l ∧ PlOk p ∧ ∃ t, tch l p = some t := by
  unfold fitsS at h
  by_cases c1 : FsOk l
  · rw [if_pos c1] at h
    by_cases c2 : PlOk p
    · rw [if_pos c2] at h
      cases ht : tch l p with
      | none => rw [ht] at h; simp at h
      | some t => exact ⟨c1, c2, t, rfl⟩
    · rw [if_neg c2] at h; simp at h
  · rw [if_neg c1] at h; simp at h
theorem tch_fnd {l : List TField} {p : TPlan} {t : List TField} (h : tch l p = some t) : ∃ f, fnd l p.Name = some f := by
  unfold tch at h
  cases h1 : fnd l p.Name with
  | none => rw [h1] at h; simp at h
  | some f => exact ⟨f, rfl⟩
theorem plan_Apply_eq (l : List TField) (p : TPlan) (hl : Small l) (hk : inI64 p.Kind = true) (h1 : p.Name.size ≤ 1000000) (h2 : p.Other.size ≤ 1000000) : plan_Apply l p = some (applyS l p) := by
  have hn := hl.1
  unfold plan_Apply applyS
  rw [plan_Fits_eq l p hl hk h1 h2, obs]
  by_cases h0 : fitsS l p = 0
  rotate_left
  · rw [if_neg h0, if_pos (by simp [h0])]
  rw [if_pos h0, if_neg (by simp [h0]), plan_Find_eq l _ (by omega), obs, plan_Find_eq l _ (by omega), obs]
  obtain ⟨c1, c2, t, ht⟩ := fits_found h0
  obtain ⟨f, hf⟩ := tch_fnd ht
  have hs : ∀ x : List TField, x.length ≤ 2 → sortM planCmp (x ++ rest l p) = some (sortF planCmp (x ++ rest l p)) := fun x hx => by
    unfold sortM
    rw [if_pos]
    have : (rest l p).length ≤ l.length := List.length_filter_le _ _
    simp only [List.length_append]; omega
  rw [hf]
  rw [fnd_idx] at hf
  obtain ⟨i, hi, hfi⟩ := Option.map_eq_some_iff.1 hf
  rw [hi]
  have hgi : ∀ g : TField, (Option.bind (plan_change_own f g p) fun r10 =>
      if (!decide (r10.2 = 0)) = true then some (([] : List TField), r10.2)
      else Option.bind (loopM (plan_Apply_L1 l p) fuel (0, r10.1)) fun x13 => Option.bind (sortM planCmp x13) fun l20 => some (l20, 0)) =
      some (if (changeS f g p).2 = 0 then (sortF planCmp ((changeS f g p).1 ++ rest l p), 0) else ([], (changeS f g p).2)) := fun g => by
    rw [plan_change_eq, obs]
    by_cases h : (changeS f g p).2 = 0
    · have := changeS_len f g p
      rw [if_pos h, if_neg (by simp [h]), apply_loop l p hl _ (by omega) (fun i s => rfl), obs, hs _ this, obs]
    · rw [if_neg h, if_pos (by simp [h])]
  cases hg : fidx l p.Other with
  | none =>
    have e : fnd l p.Other = none := by rw [fnd_idx, hg]; rfl
    rw [e]
    simp only []
    rw [if_neg (by simp), six_of (fidx_lt hi), obs, letM_eq, hfi]
    exact hgi nilF
  | some k =>
    have e : fnd l p.Other = some (l.getD k default) := by rw [fnd_idx, hg]; rfl
    rw [e]
    simp only []
    rw [if_pos trivial, six_of (fidx_lt hg), obs, letM_eq, six_of (fidx_lt hi), obs, letM_eq, hfi]
    exact hgi _
end Go.Av
namespace Go.Av
set_option linter.unusedSectionVars false
set_option linter.unusedVariables false
set_option linter.unusedSimpArgs false

theorem awake13_eq : usufructlaw13_awake = some true := by decide +kernel
def Few13 (l : List TField) (p : TPlan) : Prop := l.length ≤ 8 ∧ (∀ f ∈ l, f.Name.size ≤ 100 ∧ f.Holds.length ≤ 40) ∧ p.Name.size ≤ 100 ∧ p.Other.size ≤ 100
instance (l : List TField) (p : TPlan) : Decidable (Few13 l p) := by unfold Few13; infer_instance
theorem Few13_eq (l : List TField) (p : TPlan) : usufructlaw13_Few l p = some (decide (Few13 l p)) := by
  unfold usufructlaw13_Few
  by_cases h : l.length ≤ 8
  · rw [gd_t (by simp; omega), Few7_eq l (by omega), obs]
    refine sd ?_
    have h' : (l.length : Int) ≤ 8 := by omega
    simp only [Few13, h, h', decide_true, Bool.true_and, true_and, Bool.and_eq_true, decide_eq_true_eq, and_assoc]
    refine and_congr_right fun _ => ?_
    omega
  · rw [gd_f (by simp; omega), obs]
    refine sd ?_
    have h' : ¬ (l.length : Int) ≤ 8 := by omega
    simp [Few13, h, h']
theorem Few13.small {l : List TField} {p : TPlan} (h : Few13 l p) : Small l := ⟨by have := h.1; omega, fun f hf => by have := h.2.1 f hf; omega⟩
theorem law13_own_eq (l : List TField) (hl : Small l) : usufructlaw13_own l = some l := by
  have hn := hl.1
  unfold usufructlaw13_own
  rw [loopM_eq (q := l) (fun i s => s = ((i : Int), l.take i)) l.length (by omega) ?_ ?_ (by simp)]
  · rfl
  · rintro i s hi rfl
    refine .inl ⟨_, ?_, rfl⟩
    have hh := hl.at i
    simp only [usufructlaw13_own_L1]
    rw [if_pos (by simp; omega), six_of hi, obs, letM_eq, app_of (by simp only [List.length_nil]; omega), obs, letM_eq, app_of (by simp only [List.length_cons, List.length_nil, List.length_take]; omega), obs]
    simp only [wr_succ (show i < 1000000000000000 by omega), List.nil_append]
    congr 4
    rw [show l.getD i default = l[i] by simp [List.getD, hi]]
    exact (List.take_succ_eq_append_getElem hi).symm
  · rintro s rfl
    simp only [usufructlaw13_own_L1]
    rw [if_neg (by simp)]; simp
def oneF (l : List TField) (n : ByteArray) : TField × Bool := match fnd l n with | some f => (f, true) | none => (nilF, false)
theorem law13_one_eq (l : List TField) (n : ByteArray) (hl : l.length ≤ 1000000) : usufructlaw13_one l n = some (oneF l n) := by
  unfold usufructlaw13_one oneF
  rw [loop_first l (by omega) (fun f => decide (f.Name = n)) (fun i => (l.getD i default, true)) () (fun i hi => ?_) (by simp [usufructlaw13_one_L1])]
  · rw [fnd_idx]
    unfold fidx
    cases l.findIdx? (fun f => decide (f.Name = n)) <;> rfl
  · simp only [usufructlaw13_one_L1]
    rw [if_pos (by simp; omega), six_of hi, obs, letM_eq]
    simp only [wr_succ (show i < 1000000000000000 by omega)]
    by_cases h : decide ((l.getD i default).Name = n) = true
    · rw [if_pos h, if_pos h]
    · rw [if_neg h, if_neg h]
end Go.Av
namespace Go.Av
set_option linter.unusedSectionVars false
set_option linter.unusedVariables false
set_option linter.unusedSimpArgs false

theorem made_small (n : ByteArray) (e v lo hi : Int) (hn : n.size ≤ 1000000) : (madeS n e v lo hi).1.Name.size ≤ 1000000 ∧ (madeS n e v lo hi).1.Holds.length ≤ 100000 := by
  have z : nilF.Name.size ≤ 1000000 ∧ nilF.Holds.length ≤ 100000 := by decide
  unfold madeS
  by_cases h : madeOk e v lo hi
  · rw [if_pos h]
    by_cases h2 : NewOk v lo hi
    · rw [if_pos h2]; exact ⟨hn, by simp [madeF]⟩
    · rw [if_neg h2]; exact z
  · rw [if_neg h]; exact z
theorem change_small (f g : TField) (p : TPlan) (hf : f.Name.size ≤ 1000000) (hp : p.Other.size ≤ 1000000) : ∀ x ∈ (changeS f g p).1, x.Name.size ≤ 1000000 ∧ x.Holds.length ≤ 100000 := by
  have o : ∀ v lo hi e, ∀ x ∈ (oneS v lo hi f e).1, x.Name.size ≤ 1000000 ∧ x.Holds.length ≤ 100000 := fun v lo hi e x hx => by
    simp only [oneS, List.mem_singleton] at hx
    subst hx
    exact made_small _ _ _ _ _ hf
  unfold changeS
  repeat' split
  · simp
  · exact o _ _ _ _
  · exact o _ _ _ _
  · exact o _ _ _ _
  · exact o _ _ _ _
  · intro x hx
    rcases List.mem_append.1 hx with hx | hx
    · exact o _ _ _ _ x hx
    · simp only [List.mem_singleton] at hx
      subst hx
      exact made_small _ _ _ _ _ hp
  · simp
  · intro x hx
    simp only [List.mem_singleton] at hx
    subst hx
    exact ⟨hf, by simp⟩
  · simp
theorem rest_sub {l : List TField} {p : TPlan} {x : TField} (h : x ∈ rest l p) : x ∈ l := (List.mem_filter.1 h).1
theorem fndD_small (l : List TField) (hl : Small l) (n : ByteArray) : ((fnd l n).getD nilF).Name.size ≤ 1000000 := by
  cases h : fnd l n with
  | none => decide
  | some f => exact (hl.2 f (fnd_mem h)).1
theorem apply_small (l : List TField) (p : TPlan) (hl : Small l) (h8 : l.length ≤ 900) (hp : p.Other.size ≤ 1000000) : Small (applyS l p).1 := by
  unfold applyS
  by_cases h : fitsS l p = 0
  rotate_left
  · rw [if_neg h]; exact ⟨by simp, by simp⟩
  rw [if_pos h]
  by_cases h2 : (changeS ((fnd l p.Name).getD nilF) ((fnd l p.Other).getD nilF) p).2 = 0
  rotate_left
  · rw [if_neg h2]; exact ⟨by simp, by simp⟩
  rw [if_pos h2]
  have h3 := changeS_len ((fnd l p.Name).getD nilF) ((fnd l p.Other).getD nilF) p
  have h4 : (rest l p).length ≤ l.length := List.length_filter_le _ _
  refine ⟨by simp only [sortF_length planCmp_swo, List.length_append]; omega, fun x hx => ?_⟩
  rcases List.mem_append.1 ((sortF_perm planCmp_swo _).mem_iff.1 hx) with hx | hx
  · exact change_small _ _ _ (fndD_small l hl _) hp x hx
  · exact hl.2 x (rest_sub hx)
theorem apply_zero {l : List TField} {p : TPlan} (h : (applyS l p).2 = 0) : fitsS l p = 0 := by
  unfold applyS at h
  by_cases k : fitsS l p = 0
  · exact k
  · rw [if_neg k] at h; exact h
theorem wf_i64 {x : Int} (h : (Lit.int .i64 x).wf = true) : inI64 x = true := by
  simp [Lit.wf, IntKind.min, IntKind.max, IntKind.signed, IntKind.bits] at h
  simp [inI64]; omega
end Go.Av
namespace Go.Av
set_option linter.unusedSectionVars false
set_option linter.unusedVariables false
set_option linter.unusedSimpArgs false

theorem sumO_val : ∀ (l : List Int) (n m : Int), IsN n → sumO n l = some m → m = n + l.sum ∧ IsN m
  | [], n, m, hn, h => by simp only [sumO, Option.some.injEq] at h; subst h; simpa using hn
  | x :: t, n, m, hn, h => by
    simp only [sumO] at h
    by_cases k : IsN n ∧ IsN x ∧ IsN (n + x)
    · have e : addS n x = (n + x, 0) := by unfold addS; rw [if_pos k]
      rw [e, if_pos rfl] at h
      obtain ⟨h1, h2⟩ := sumO_val t (n + x) m k.2.2 h
      refine ⟨?_, h2⟩
      rw [h1, List.sum_cons]; omega
    · have e : addS n x = (0, 2) := by unfold addS; rw [if_neg k]
      rw [e] at h
      simp at h
theorem sumS_val {l : List Int} (h : (sumS l).2 = 0) : (sumS l).1 = l.sum ∧ IsN (sumS l).1 := by
  unfold sumS at h ⊢
  cases k : sumO 0 l with
  | none => rw [k] at h; simp at h
  | some m =>
    have := sumO_val l 0 m (by decide) k
    simp only []
    exact ⟨by omega, this.2⟩
theorem view_isN {f : TField} (hf : FOk f) (h : (viewS f).2 = 0) : IsN (viewS f).1 := by
  unfold viewS at h ⊢
  by_cases c : f.Kind = 1
  · rw [if_pos c] at h ⊢; exact (sumS_val h).2
  · rw [if_neg c] at h ⊢
    by_cases c2 : f.Kind = 2
    · rw [if_pos c2]
      rcases hf.2.2 with k | k
      · exact (c k.1).elim
      · exact k.2.1.2.2.2.2
    · rw [if_neg c2] at h; simp at h
theorem made_zero {n : ByteArray} {e v lo hi : Int} (h : (madeS n e v lo hi).2 = 0) : madeOk e v lo hi ∧ NewOk v lo hi ∧ madeS n e v lo hi = (madeF n e v lo hi, 0) := by
  unfold madeS at h ⊢
  by_cases h1 : madeOk e v lo hi
  · rw [if_pos h1] at h ⊢
    by_cases h2 : NewOk v lo hi
    · rw [if_pos h2]; exact ⟨h1, h2, rfl⟩
    · rw [if_neg h2] at h; simp at h
  · rw [if_neg h1] at h; simp at h
theorem madeF_view (n : ByteArray) (e v lo hi : Int) (hv : IsN v) : viewS (madeF n e v lo hi) = (v, 0) := by
  unfold viewS
  rw [if_pos (show (madeF n e v lo hi).Kind = 1 from rfl)]
  have ev : valL (madeF n e v lo hi).Counter = v :: List.replicate 32 0 := rfl
  have ea : addS 0 v = (v, 0) := by unfold addS; rw [if_pos ⟨by decide, hv, by simpa using hv⟩]; simp
  unfold sumS
  rw [ev, sumO, ea, if_pos rfl, sum_zeros 32 v hv]
theorem rts_nil9 : Rts [] := by decide
theorem madeF_ok {n : ByteArray} {e v lo hi : Int} (hn : NameOk n) (h0 : 0 ≤ e) (h1 : madeOk e v lo hi) (h2 : NewOk v lo hi) : FOk (madeF n e v lo hi) :=
  ⟨hn, ⟨h0, h1.1⟩, .inl ⟨rfl, COk_new h2, rts_nil9, rfl⟩⟩
/-- What is made of a field. -/
structure MadeOf (f : TField) (m : TField) : Prop where
  ok : FOk m
  holds : m.Holds = []
  epoch : f.Epoch < m.Epoch
  view : (viewS m).2 = 0
theorem one_ok {v lo hi e : Int} {f : TField} (hf : NameOk f.Name) (h0 : 0 ≤ f.Epoch) (he : f.Epoch < e) (h : (oneS v lo hi f e).2 = 0) :
    oneS v lo hi f e = ([madeF f.Name e v lo hi], 0) ∧ madeOk e v lo hi ∧ NewOk v lo hi ∧ MadeOf f (madeF f.Name e v lo hi) ∧ viewS (madeF f.Name e v lo hi) = (v, 0) := by
  obtain ⟨h1, h2, h3⟩ := made_zero (n := f.Name) (e := e) (v := v) (lo := lo) (hi := hi) h
  have hv := madeF_view f.Name e v lo hi h1.2.1
  exact ⟨by unfold oneS; rw [h3], h1, h2, ⟨madeF_ok hf (by omega) h1 h2, rfl, he, by rw [hv]⟩, hv⟩
def vw (f : TField) : Int := (viewS f).1
structure Changed (f g : TField) (p : TPlan) (out : List TField) : Prop where
  names : out.map (fun x => x.Name) = if p.Kind = 5 then [p.Name, p.Other] else [p.Name]
  made : ∀ m ∈ out, MadeOf f m ∧ (p.Kind = 6 → g.Epoch < m.Epoch)
  sum : (out.map vw).sum = vw f + if p.Kind = 6 then vw g else 0
theorem change_viewed {f g : TField} {p : TPlan} (h : (changeS f g p).2 = 0) : (viewS f).2 = 0 ∧ (p.Kind = 6 → (viewS g).2 = 0) := by
  by_cases c : (viewS f).2 ≠ 0 ∨ ((viewS g).2 ≠ 0 ∧ p.Kind = 6)
  · unfold changeS at h; rw [if_pos c] at h; simp at h
  · exact ⟨Classical.byContradiction fun k => c (.inl k), fun h6 => Classical.byContradiction fun k => c (.inr ⟨k, h6⟩)⟩
theorem change_ok {f g : TField} {p : TPlan} (hf : FOk f) (hg : p.Kind = 6 → FOk g) (hp : PlOk p) (hn : f.Name = p.Name) (h : (changeS f g p).2 = 0) : Changed f g p (changeS f g p).1 := by
  obtain ⟨hv1, hv2⟩ := change_viewed h
  have nb : ¬ ((viewS f).2 ≠ 0 ∨ ((viewS g).2 ≠ 0 ∧ p.Kind = 6)) := by
    rintro (k | k)
    · exact k hv1
    · exact k.1 (hv2 k.2)
  have hN := view_isN hf hv1
  have hE := hf.2.1
  have we : wr .i64 (f.Epoch + 1) = f.Epoch + 1 := wr_id (by unfold cnt IsN at hE; omega)
  have single : ∀ v lo hi e, changeS f g p = oneS v lo hi f e → p.Kind ≠ 5 → f.Epoch < e → (p.Kind = 6 → g.Epoch < e) → v = vw f + (if p.Kind = 6 then vw g else 0) → Changed f g p (changeS f g p).1 := by
    intro v lo hi e hc h5 he he6 hv
    rw [hc] at h
    obtain ⟨o1, o2, o3, o4, o5⟩ := one_ok hf.1 hE.1 he h
    rw [hc, o1]
    refine ⟨by rw [if_neg h5]; simp [madeF, hn], fun m hm => ?_, by simp only [List.map_cons, List.map_nil, List.sum_cons, List.sum_nil, vw] at hv ⊢; rw [o5]; simp only []; omega⟩
    simp only [List.mem_singleton] at hm
    subst hm
    exact ⟨o4, he6⟩
  by_cases c1 : p.Kind = 1
  · exact single _ _ _ _ (by unfold changeS; rw [if_neg nb, if_pos c1]) (by omega) (by rw [we]; omega) (by omega) (by rw [if_neg (by omega)]; simp [vw])
  by_cases c2 : p.Kind = 2
  · exact single _ _ _ _ (by unfold changeS; rw [if_neg nb, if_neg c1, if_pos c2]) (by omega) (by rw [we]; omega) (by omega) (by rw [if_neg (by omega)]; simp [vw])
  by_cases c4 : p.Kind = 4
  · exact single _ _ _ _ (by unfold changeS; rw [if_neg nb, if_neg c1, if_neg c2, if_pos c4]) (by omega) (by rw [we]; omega) (by omega) (by rw [if_neg (by omega)]; simp [vw])
  by_cases c6 : p.Kind = 6
  · have hg' := hg c6
    have hE2 := hg'.2.1
    have w2 : wr .i64 (max f.Epoch g.Epoch + 1) = max f.Epoch g.Epoch + 1 := wr_id (by unfold cnt IsN at hE hE2; omega)
    have hN2 := view_isN hg' (hv2 c6)
    exact single _ _ _ _ (by unfold changeS; rw [if_neg nb, if_neg c1, if_neg c2, if_neg c4, if_pos c6]) (by omega) (by rw [w2]; omega) (by rw [w2]; omega) (by rw [if_pos c6]; unfold vw; exact wr_id (by unfold IsN at hN hN2; omega))
  by_cases c5 : p.Kind = 5
  · by_cases hm : (madeS p.Other (wr .i64 (f.Epoch + 1)) (overS f p) 0 p.A).2 = 0
    rotate_left
    · unfold changeS at h; rw [if_neg nb, if_neg c1, if_neg c2, if_neg c4, if_neg c6, if_pos c5, if_neg hm] at h; exact (hm h).elim
    have e : changeS f g p = ((oneS (wr .i64 ((viewS f).1 - overS f p)) f.Counter.Low (wr .i64 (f.Counter.High - p.A)) f (wr .i64 (f.Epoch + 1))).1 ++ [(madeS p.Other (wr .i64 (f.Epoch + 1)) (overS f p) 0 p.A).1],
        (oneS (wr .i64 ((viewS f).1 - overS f p)) f.Counter.Low (wr .i64 (f.Counter.High - p.A)) f (wr .i64 (f.Epoch + 1))).2) := by
      unfold changeS; rw [if_neg nb, if_neg c1, if_neg c2, if_neg c4, if_neg c6, if_pos c5, if_pos hm]
    rw [e] at h
    rw [we] at e h hm
    obtain ⟨o1, o2, o3, o4, o5⟩ := one_ok hf.1 hE.1 (show f.Epoch < f.Epoch + 1 by omega) h
    obtain ⟨m1, m2, m3⟩ := made_zero hm
    have hO : NameOk p.Other := by have := hp.2.2.2; unfold kindOk at this; rcases this with k | k | k | k | k <;> first | omega | exact k.2.1
    have hmv := madeF_view p.Other (f.Epoch + 1) (overS f p) 0 p.A m1.2.1
    rw [e, o1, m3]
    refine ⟨by rw [if_pos c5]; simp [madeF, hn], fun m hm => ?_, ?_⟩
    · simp only [List.mem_append, List.mem_singleton] at hm
      rcases hm with rfl | rfl
      · exact ⟨o4, fun k => (c6 k).elim⟩
      · exact ⟨⟨madeF_ok hO (by have := hE.1; omega) m1 m2, rfl, show f.Epoch < f.Epoch + 1 by omega, by rw [hmv]⟩, fun k => (c6 k).elim⟩
    · rw [if_neg c6]
      have w3 : wr .i64 ((viewS f).1 - overS f p) = (viewS f).1 - overS f p := wr_id (by have := m1.2.1; unfold IsN at this hN; omega)
      simp only [List.map_append, List.map_cons, List.map_nil, List.sum_append, List.sum_cons, List.sum_nil, vw]
      rw [o5, hmv, w3]
      simp only []
      omega
  · by_cases k : IsN (viewS f).1 ∧ IsN (wr .i64 (f.Epoch + 1))
    rotate_left
    · unfold changeS at h; rw [if_neg nb, if_neg c1, if_neg c2, if_neg c4, if_neg c6, if_neg c5, if_neg k] at h; simp at h
    have e : changeS f g p = ([⟨f.Name, 2, wr .i64 (f.Epoch + 1), (default : TCounter), ⟨0, 0, 0, (viewS f).1⟩, ([] : List THold)⟩], 0) := by
      unfold changeS; rw [if_neg nb, if_neg c1, if_neg c2, if_neg c4, if_neg c6, if_neg c5, if_pos k]
    rw [we] at e k
    rw [e]
    refine ⟨by rw [if_neg c5]; simp [hn], fun m hm => ?_, ?_⟩
    · simp only [List.mem_singleton] at hm
      subst hm
      have z : cnt 0 := by decide
      exact ⟨⟨⟨hf.1, ⟨show 0 ≤ f.Epoch + 1 by have := hE.1; omega, k.2⟩, .inr ⟨rfl, ⟨z, z, show (0 : Int) ≤ 0 by decide, show (0 : Int) ≤ 15 by decide, k.1⟩, rfl, rfl⟩⟩, rfl, show f.Epoch < f.Epoch + 1 by omega, rfl⟩, fun k => (c6 k).elim⟩
    · rw [if_neg c6]
      simp [vw, viewS]
end Go.Av
namespace Go.Av
set_option linter.unusedSectionVars false
set_option linter.unusedVariables false
set_option linter.unusedSimpArgs false

def Dist (l : List TField) : Prop := l.Pairwise fun a b => a.Name ≠ b.Name
theorem RN.ne {a b : TField} (h : RN a b) : a.Name ≠ b.Name := fun e => by unfold RN at h; rw [e, bLs_irrefl] at h; cases h
theorem FsOk.dist {l : List TField} (h : FsOk l) : Dist l := h.2.1.imp RN.ne
theorem Dist.perm {l k : List TField} (h : l.Perm k) (d : Dist l) : Dist k := h.pairwise d fun h => h.symm
theorem sort_RN {l : List TField} (d : Dist l) : (sortF planCmp l).Pairwise RN := by
  have h1 := sortF_sorted planCmp_swo l
  rw [planCmp_lt] at h1
  have h2 : Dist (sortF planCmp l) := Dist.perm (sortF_perm planCmp_swo l).symm d
  refine (h1.and h2).imp ?_
  rintro a b ⟨h, k⟩
  cases c : bLs a.Name b.Name with
  | true => exact c
  | false => exact (k (bLs_tri c h)).elim
theorem fnd_of {l : List TField} {m : TField} {n : ByteArray} (d : Dist l) (hm : m ∈ l) (hn : m.Name = n) : fnd l n = some m := by
  induction l with
  | nil => cases hm
  | cons x l ih =>
    unfold fnd
    rw [List.find?_cons]
    rcases List.mem_cons.1 hm with rfl | h
    · rw [decide_eq_true hn]
    · have : x.Name ≠ n := fun e => (List.pairwise_cons.1 d).1 m h (e.trans hn.symm)
      rw [decide_eq_false this]
      exact ih (List.pairwise_cons.1 d).2 h
theorem fnd_none {l : List TField} {n : ByteArray} (h : fnd l n = none) : ∀ x ∈ l, x.Name ≠ n := fun x hx e => by
  have := List.find?_eq_none.1 h x hx
  simp [e] at this
def offN (n : ByteArray) (l : List TField) : List TField := l.filter fun x => !decide (x.Name = n)
theorem off_perm {l : List TField} {f : TField} {n : ByteArray} (d : Dist l) (h : fnd l n = some f) : l.Perm (f :: offN n l) := by
  induction l with
  | nil => cases h
  | cons x l ih =>
    unfold fnd at h
    rw [List.find?_cons] at h
    have d' := List.pairwise_cons.1 d
    unfold offN
    rw [List.filter_cons]
    by_cases e : x.Name = n
    · rw [decide_eq_true e] at h
      simp only [Option.some.injEq] at h
      subst h
      rw [decide_eq_true e]
      have : l.filter (fun x => !decide (x.Name = n)) = l := List.filter_eq_self.2 fun y hy => by
        have := d'.1 y hy
        simp only [Bool.not_eq_true', decide_eq_false_iff_not]
        exact fun q => this (e.trans q.symm)
      simp [this]
    · rw [decide_eq_false e] at h
      rw [decide_eq_false e]
      have := ih d'.2 h
      simp only [Bool.not_false, if_true]
      exact (this.cons x).trans (List.Perm.swap _ _ _)
theorem rest_one {l : List TField} {p : TPlan} (h : ∀ x ∈ l, tchB p x.Name = decide (x.Name = p.Name)) : rest l p = offN p.Name l := by
  unfold rest offN
  exact List.filter_congr fun x hx => by rw [h x hx]
theorem rest_two (l : List TField) {p : TPlan} (h : p.Other ≠ noS) : rest l p = offN p.Other (offN p.Name l) := by
  unfold rest offN
  rw [List.filter_filter]
  refine List.filter_congr fun x hx => ?_
  unfold tchB
  rw [decide_eq_false h]
  cases decide (x.Name = p.Name) <;> cases decide (x.Name = p.Other) <;> rfl
theorem NameOk_ne {n : ByteArray} (h : NameOk n) : n ≠ noS := fun e => by rw [e] at h; exact absurd h.2.1 (by decide)
/-- Fields, as a plan that fits sees them. -/
structure Fit (l : List TField) (p : TPlan) (f : TField) : Prop where
  fs : FsOk l
  pl : PlOk p
  found : fnd l p.Name = some f
  one : p.Kind ≠ 6 → l.Perm (f :: rest l p)
  two : p.Kind = 6 → ∃ g, fnd l p.Other = some g ∧ l.Perm (f :: g :: rest l p)
  five : p.Kind = 5 → fnd l p.Other = none ∧ l.length ≠ 4
  kind : f.Kind = if p.Kind = 4 then 2 else 1
theorem kind5 {p : TPlan} (h : PlOk p) (k : p.Kind = 5) : NameOk p.Other ∧ p.Other ≠ p.Name ∧ 1 ≤ p.A ∧ p.B = 0 := by
  have := h.2.2.2; unfold kindOk at this
  rcases this with q | q | q | q | q <;> first | omega | exact q.2
theorem kind6 {p : TPlan} (h : PlOk p) (k : p.Kind = 6) : NameOk p.Other ∧ p.Other ≠ p.Name ∧ p.A = 0 ∧ p.B = 0 := by
  have := h.2.2.2; unfold kindOk at this
  rcases this with q | q | q | q | q <;> first | omega | exact q.2
theorem kind_no {p : TPlan} (h : PlOk p) (k : p.Kind ≠ 5) (k2 : p.Kind ≠ 6) : p.Other = noS := by
  have := h.2.2.2; unfold kindOk at this
  rcases this with q | q | q | q | q
  · exact q.2.1
  · exact q.2.1
  · exact q.2.1
  · exact (k q.1).elim
  · exact (k2 q.1).elim
theorem chk_kind {t : List TField} {k : Int} (h : chkS t k = 0) : ∀ f ∈ t, f.Kind = k := fun f hf => by
  unfold chkS at h
  by_cases c : t.any (offK k) = true
  · rw [if_pos c] at h; simp at h
  · simp only [List.any_eq_true, not_exists, not_and, offK] at c
    simpa using c f hf
theorem fit_of {l : List TField} {p : TPlan} (h : fitsS l p = 0) : ∃ f, Fit l p f := by
  obtain ⟨c1, c2, t, ht⟩ := fits_found h
  obtain ⟨f, hf⟩ := tch_fnd ht
  unfold fitsS at h
  rw [if_pos c1, if_pos c2, ht] at h
  simp only [] at h
  unfold tch at ht
  rw [hf] at ht
  simp only [] at ht
  have d := c1.dist
  refine ⟨f, c1, c2, hf, fun k6 => ?_, fun k6 => ?_, fun k5 => ?_, ?_⟩
  · rw [if_neg k6] at ht
    have key : ∀ x ∈ l, tchB p x.Name = decide (x.Name = p.Name) := fun x hx => by
      unfold tchB
      by_cases k5 : p.Kind = 5
      · rw [if_pos k5] at h
        have hn : ¬ ((fidx l p.Other).isSome = true) := fun q => by rw [if_pos q] at h; simp at h
        have : fnd l p.Other = none := by rw [fnd_idx]; cases e : fidx l p.Other with | none => rfl | some i => rw [e] at hn; simp at hn
        rw [decide_eq_false (fnd_none this x hx)]; simp
      · rw [kind_no c2 k5 k6]; simp
    rw [rest_one key]
    exact off_perm d hf
  · rw [if_pos k6] at ht
    cases hg : fnd l p.Other with
    | none => rw [hg] at ht; cases ht
    | some g =>
      refine ⟨g, rfl, ?_⟩
      have q := kind6 c2 k6
      have h1 := off_perm d hf
      have d1 : Dist (offN p.Name l) := (List.pairwise_cons.1 (Dist.perm h1 d)).2
      have hgn := fnd_name hg
      have hg1 : g ∈ offN p.Name l := List.mem_filter.2 ⟨fnd_mem hg, by rw [hgn]; simpa using q.2.1⟩
      rw [rest_two l (NameOk_ne q.1)]
      exact h1.trans ((off_perm d1 (fnd_of d1 hg1 hgn)).cons f)
  · rw [if_pos k5] at h
    have hn : ¬ ((fidx l p.Other).isSome = true) := fun q => by rw [if_pos q] at h; simp at h
    rw [if_neg hn] at h
    refine ⟨by rw [fnd_idx]; cases e : fidx l p.Other with | none => rfl | some i => rw [e] at hn; simp at hn, fun k => ?_⟩
    rw [if_pos k] at h; simp at h
  · have hm : f ∈ t := by
      by_cases k6 : p.Kind = 6
      · rw [if_pos k6] at ht
        cases hg : fnd l p.Other with
        | none => rw [hg] at ht; cases ht
        | some g => rw [hg] at ht; simp only [Option.some.injEq] at ht; subst ht; simp
      · rw [if_neg k6] at ht; simp only [Option.some.injEq] at ht; subst ht; simp
    by_cases k4 : p.Kind = 4
    · rw [if_neg (by omega), if_pos k4] at h
      rw [if_pos k4]
      exact chk_kind h f hm
    · rw [if_neg k4]
      by_cases k5 : p.Kind = 5
      · rw [if_pos k5] at h
        have hn : ¬ ((fidx l p.Other).isSome = true) := fun q => by rw [if_pos q] at h; simp at h
        rw [if_neg hn] at h
        by_cases k : l.length = 4
        · rw [if_pos k] at h; simp at h
        · rw [if_neg k] at h; exact chk_kind h f hm
      · rw [if_neg k5, if_neg k4] at h; exact chk_kind h f hm
/-- A plan that goes: what it makes. -/
structure Goes (l : List TField) (p : TPlan) (f g : TField) (out : List TField) : Prop where
  fit : Fit l p f
  other : g = (fnd l p.Other).getD nilF
  out_eq : changeS f g p = (out, 0)
  ch : Changed f g p out
  res : (applyS l p).1 = sortF planCmp (out ++ rest l p)
  perm : (applyS l p).1.Perm (out ++ rest l p)
  ok : FsOk (applyS l p).1
theorem goes_of {l : List TField} {p : TPlan} (h : (applyS l p).2 = 0) : ∃ f g out, Goes l p f g out := by
  have h0 := apply_zero h
  obtain ⟨f, ft⟩ := fit_of h0
  have hf := ft.found
  have hff := ft.fs.1 f (fnd_mem hf)
  have hc : (changeS f ((fnd l p.Other).getD nilF) p).2 = 0 := by
    unfold applyS at h
    rw [if_pos h0, hf] at h
    by_cases k : (changeS f ((fnd l p.Other).getD nilF) p).2 = 0
    · exact k
    · rw [if_neg (by exact k)] at h; exact h
  have hg6 : p.Kind = 6 → FOk ((fnd l p.Other).getD nilF) := fun k => by
    obtain ⟨g, hg, _⟩ := ft.two k
    rw [hg]; exact ft.fs.1 g (fnd_mem hg)
  have ch := change_ok hff hg6 ft.pl (fnd_name hf) hc
  have hres : (applyS l p).1 = sortF planCmp ((changeS f ((fnd l p.Other).getD nilF) p).1 ++ rest l p) := by
    unfold applyS
    rw [if_pos h0, hf]
    show (if (changeS f ((fnd l p.Other).getD nilF) p).2 = 0 then _ else _ : List TField × Int).1 = _
    rw [if_pos hc]; rfl
  have hperm : (applyS l p).1.Perm ((changeS f ((fnd l p.Other).getD nilF) p).1 ++ rest l p) := by rw [hres]; exact sortF_perm planCmp_swo _
  have d : Dist ((changeS f ((fnd l p.Other).getD nilF) p).1 ++ rest l p) := by
    refine List.pairwise_append.2 ⟨?_, ft.fs.dist.filter _, fun m hm x hx => ?_⟩
    · have : ((changeS f ((fnd l p.Other).getD nilF) p).1.map fun x => x.Name).Pairwise (fun a b => a ≠ b) := by
        rw [ch.names]
        by_cases k5 : p.Kind = 5
        · rw [if_pos k5]
          have := (kind5 ft.pl k5).2.1
          simpa using fun e => this e.symm
        · rw [if_neg k5]; simp
      exact List.pairwise_map.1 this
    · have h1 : m.Name ∈ (changeS f ((fnd l p.Other).getD nilF) p).1.map fun x => x.Name := List.mem_map.2 ⟨m, hm, rfl⟩
      rw [ch.names] at h1
      have h2 := (List.mem_filter.1 hx).2
      intro e
      rw [← e] at h2
      have : tchB p m.Name = true := by
        by_cases k5 : p.Kind = 5
        · rw [if_pos k5] at h1
          have q := NameOk_ne (kind5 ft.pl k5).1
          unfold tchB
          rw [decide_eq_false q]
          simp only [List.mem_cons, List.not_mem_nil, or_false] at h1
          rcases h1 with e1 | e1
          · rw [decide_eq_true e1]; rfl
          · rw [decide_eq_true e1]; simp
        · rw [if_neg k5] at h1
          simp only [List.mem_singleton] at h1
          unfold tchB
          rw [decide_eq_true h1]; rfl
      rw [this] at h2; simp at h2
  have hlen : ((changeS f ((fnd l p.Other).getD nilF) p).1 ++ rest l p).length ≤ 4 := by
    have hl4 := ft.fs.2.2
    have hn : ((changeS f ((fnd l p.Other).getD nilF) p).1.map fun x => x.Name).length = _ := congrArg List.length ch.names
    rw [List.length_map] at hn
    rw [List.length_append, hn]
    by_cases k5 : p.Kind = 5
    · have h1 := (ft.one (by omega)).length_eq
      have h2 := (ft.five k5).2
      rw [if_pos k5]
      simp only [List.length_cons, List.length_nil] at h1 ⊢; omega
    · rw [if_neg k5]
      by_cases k6 : p.Kind = 6
      · obtain ⟨g, _, h1⟩ := ft.two k6
        have h1 := h1.length_eq
        simp only [List.length_cons, List.length_nil] at h1 ⊢; omega
      · have h1 := (ft.one k6).length_eq
        simp only [List.length_cons, List.length_nil] at h1 ⊢; omega
  refine ⟨f, _, _, ft, rfl, Prod.ext rfl hc, ch, hres, hperm, fun x hx => ?_, by rw [hres]; exact sort_RN d, by rw [hperm.length_eq]; exact hlen⟩
  rcases List.mem_append.1 (hperm.mem_iff.1 hx) with hx | hx
  · exact (ch.made x hx).1.ok
  · exact ft.fs.1 x (rest_sub hx)
end Go.Av
namespace Go.Av
set_option linter.unusedSectionVars false
set_option linter.unusedVariables false
set_option linter.unusedSimpArgs false

structure Parts (f : TField) (p : TPlan) (out : List TField) (o : Int) : Prop where
  out : out = [madeF f.Name (f.Epoch + 1) ((viewS f).1 - o) f.Counter.Low (f.Counter.High - p.A), madeF p.Other (f.Epoch + 1) o 0 p.A]
  m1 : madeOk (f.Epoch + 1) ((viewS f).1 - o) f.Counter.Low (f.Counter.High - p.A)
  n1 : NewOk ((viewS f).1 - o) f.Counter.Low (f.Counter.High - p.A)
  m2 : madeOk (f.Epoch + 1) o 0 p.A
  n2 : NewOk o 0 p.A
theorem split_parts {f g : TField} {p : TPlan} {out : List TField} (hf : FOk f) (hk : f.Kind = 1) (hp : PlOk p) (c5 : p.Kind = 5) (h : changeS f g p = (out, 0)) : Parts f p out (overS f p) := by
  obtain ⟨hv1, hv2⟩ := change_viewed (f := f) (g := g) (p := p) (by rw [h])
  have nb : ¬ ((viewS f).2 ≠ 0 ∨ ((viewS g).2 ≠ 0 ∧ p.Kind = 6)) := by
    rintro (k | k)
    · exact k hv1
    · omega
  have hN := view_isN hf hv1
  have hE := hf.2.1
  have we : wr .i64 (f.Epoch + 1) = f.Epoch + 1 := wr_id (by unfold cnt IsN at hE; omega)
  have hA := hp.2.1
  have hC : COk f.Counter := by
    rcases hf.2.2 with k | k
    · exact k.2.1
    · omega
  have wh : wr .i64 (f.Counter.High - p.A) = f.Counter.High - p.A := wr_id (by have := hC.2.2.1; unfold IsN at this hA; omega)
  unfold changeS at h
  rw [if_neg nb, if_neg (by omega), if_neg (by omega), if_neg (by omega), if_neg (by omega), if_pos c5, we, wh] at h
  by_cases hm : (madeS p.Other (f.Epoch + 1) (overS f p) 0 p.A).2 = 0
  rotate_left
  · rw [if_neg hm] at h; exact (hm (congrArg Prod.snd h)).elim
  rw [if_pos hm] at h
  obtain ⟨m1, m2, m3⟩ := made_zero hm
  have w3 : wr .i64 ((viewS f).1 - overS f p) = (viewS f).1 - overS f p := wr_id (by have := m1.2.1; unfold IsN at this hN; omega)
  rw [w3] at h
  have h2 := congrArg Prod.snd h
  have h1 := congrArg Prod.fst h
  simp only [] at h1 h2
  obtain ⟨o1, o2, o3, _, _⟩ := one_ok hf.1 hE.1 (show f.Epoch < f.Epoch + 1 by omega) h2
  rw [o1, m3] at h1
  exact ⟨h1.symm, o2, o3, m1, m2⟩
end Go.Av
namespace Go.Av
set_option linter.unusedSectionVars false
set_option linter.unusedVariables false
set_option linter.unusedSimpArgs false

def Bd (m : TField) : Prop := m.Kind = 1 → m.Counter.Low ≤ (viewS m).1 ∧ (viewS m).1 ≤ m.Counter.High
theorem made_bd {n : ByteArray} {e v lo hi : Int} (h : (madeS n e v lo hi).2 = 0) : Bd (madeS n e v lo hi).1 := by
  obtain ⟨h1, h2, h3⟩ := made_zero h
  rw [h3]
  intro _
  rw [madeF_view _ _ _ _ _ h1.2.1]
  exact ⟨h2.2.2.2.1, h2.2.2.2.2.1⟩
theorem change_bd {f g : TField} {p : TPlan} (h : (changeS f g p).2 = 0) : ∀ m ∈ (changeS f g p).1, Bd m := by
  have o : ∀ v lo hi e, (oneS v lo hi f e).2 = 0 → ∀ m ∈ (oneS v lo hi f e).1, Bd m := fun v lo hi e h m hm => by
    simp only [oneS, List.mem_singleton] at hm h
    subst hm
    exact made_bd h
  revert h
  unfold changeS
  repeat' split
  · intro _ m hm; cases hm
  · exact o _ _ _ _
  · exact o _ _ _ _
  · exact o _ _ _ _
  · exact o _ _ _ _
  · rename_i hmm
    intro h m hm
    rcases List.mem_append.1 hm with hm | hm
    · exact o _ _ _ _ h m hm
    · simp only [List.mem_singleton] at hm
      subst hm
      exact made_bd hmm
  · intro _ m hm; cases hm
  · intro _ m hm
    simp only [List.mem_singleton] at hm
    subst hm
    intro k; cases k
  · intro _ m hm; cases hm
theorem one_out {v lo hi e : Int} {f : TField} {out : List TField} (h : oneS v lo hi f e = (out, 0)) : out = [madeF f.Name e v lo hi] := by
  have h2 : (madeS f.Name e v lo hi).2 = 0 := congrArg Prod.snd h
  have h1 : [(madeS f.Name e v lo hi).1] = out := congrArg Prod.fst h
  rw [← h1, (made_zero h2).2.2]
theorem PlanBounds_true (l : List TField) (p : TPlan) (v w : Int) (hk : (Lit.int .i64 p.Kind).wf = true) : usufructlaw13_PlanBounds l p v w = some true := by
  have hk : inI64 p.Kind = true := wf_i64 hk
  unfold usufructlaw13_PlanBounds
  rw [Few13_eq, obs, letM_eq, letM_eq]
  by_cases hF : Few13 l p ∧ (-2199023255552 ≤ v ∧ v ≤ 2199023255552) ∧ (-2199023255552 ≤ w ∧ w ≤ 2199023255552)
  rotate_left
  · rw [if_pos, awake13_eq]
    · rfl
    · by_cases h : Few13 l p
      · simp only [h, decide_true, Bool.not_true, Bool.false_or, Bool.or_eq_true, decide_eq_true_eq]
        refine Classical.byContradiction fun k => hF ⟨h, ?_, ?_⟩ <;> omega
      · simp [h]
  obtain ⟨hF, hv, hw⟩ := hF
  have hl := hF.small
  have hn := hF.1
  have hp1 := hF.2.2.1
  have hp2 := hF.2.2.2
  rw [if_neg (by simp only [hF, decide_true, Bool.not_true, Bool.false_or, Bool.or_eq_true, decide_eq_true_eq]; omega), law13_own_eq l hl, obs, plan_Apply_eq l p hl hk (by omega) (by omega), obs]
  by_cases hz : (applyS l p).2 = 0
  rotate_left
  · rw [if_pos (by simp [hz]), awake13_eq]; rfl
  obtain ⟨f, g, out, go⟩ := goes_of hz
  have hs := apply_small l p hl (by omega) (by omega)
  have hn2 := hs.1
  have ft := go.fit
  have hff := ft.fs.1 f (fnd_mem ft.found)
  obtain ⟨m, hm, hmn⟩ : ∃ m, m ∈ out ∧ m.Name = p.Name := by
    have : p.Name ∈ out.map fun x => x.Name := by rw [go.ch.names]; split <;> simp
    obtain ⟨m, h1, h2⟩ := List.mem_map.1 this
    exact ⟨m, h1, h2⟩
  have inx : ∀ y ∈ out, y ∈ (applyS l p).1 := fun y hy => go.perm.mem_iff.2 (List.mem_append.2 (.inl hy))
  have fm : fnd (applyS l p).1 p.Name = some m := fnd_of go.ok.dist (inx m hm) hmn
  have bd : Bd m := change_bd (f := f) (g := g) (p := p) (by rw [go.out_eq]) m (by rw [go.out_eq]; exact hm)
  obtain ⟨vf1, vf2⟩ := change_viewed (f := f) (g := g) (p := p) (by rw [go.out_eq])
  have nb : ¬ ((viewS f).2 ≠ 0 ∨ ((viewS g).2 ≠ 0 ∧ p.Kind = 6)) := by
    rintro (k | k)
    · exact k vf1
    · exact k.1 (vf2 k.2)
  rw [if_neg (by simp [hz]), law13_one_eq l _ (by omega), obs, law13_one_eq _ _ (by omega), obs, ref07_View_eq, obs, letM_eq]
  have o1 : oneF l p.Name = (f, true) := by unfold oneF; rw [ft.found]
  have o2 : oneF (applyS l p).1 p.Name = (m, true) := by unfold oneF; rw [fm]
  rw [o1, o2]
  simp only []
  rw [if_neg (by
    by_cases k1 : m.Kind = 1
    · have := bd k1
      simp [k1]; omega
    · simp [k1])]
  have hlo : ∀ k : p.Kind ≠ 4, COk f.Counter := fun k => by
    have fk := ft.kind
    rw [if_neg k] at fk
    rcases hff.2.2 with q | q
    · exact q.2.1
    · omega
  by_cases c1 : p.Kind = 1
  · have hC := hlo (by omega)
    have hA := ft.pl.2.1
    have hB := ft.pl.2.2.1
    have hq : 0 ≤ p.A ∧ 0 ≤ p.B := by
      have := ft.pl.2.2.2; unfold kindOk at this
      rcases this with q | q | q | q | q
      · exact ⟨q.2.2.1, q.2.2.2.1⟩
      all_goals omega
    have ho := go.out_eq
    unfold changeS at ho
    rw [if_neg nb, if_pos c1] at ho
    have ho := one_out ho
    rw [ho] at hm
    simp only [List.mem_singleton] at hm
    have b1 : m.Counter.Low = f.Counter.Low + p.A := by rw [hm]; exact wr_id (by have := hC.2.1; unfold IsN at this hA; omega)
    have b2 : m.Counter.High = f.Counter.High - p.B := by rw [hm]; exact wr_id (by have := hC.2.2.1; unfold IsN at this hB; omega)
    rw [if_pos (by simp [c1]), letM_eq, letM_eq, b1, b2, awake13_eq, gd_nb, obs]
    have : ((decide (v < f.Counter.Low + p.A)) || (decide (f.Counter.High - p.B < v)) || ((decide (f.Counter.Low ≤ v)) && (decide (v ≤ f.Counter.High)))) = true := by
      simp only [Bool.or_eq_true, Bool.and_eq_true, decide_eq_true_eq]; omega
    rw [this]; rfl
  rw [if_neg (by simp [c1])]
  by_cases c5 : p.Kind = 5
  · have hC := hlo (by omega)
    have fk : f.Kind = 1 := by have := ft.kind; rw [if_neg (by omega)] at this; exact this
    obtain ⟨ho, a1, a2, a3, a4⟩ := split_parts hff fk ft.pl c5 go.out_eq
    generalize overS f p = ov at ho a1 a2 a3 a4
    have hk5 := kind5 ft.pl c5
    have f1 : fnd (applyS l p).1 p.Name = some (madeF f.Name (f.Epoch + 1) ((viewS f).1 - ov) f.Counter.Low (f.Counter.High - p.A)) := fnd_of go.ok.dist (inx _ (by rw [ho]; simp)) (show f.Name = p.Name from fnd_name ft.found)
    have f2 : fnd (applyS l p).1 p.Other = some (madeF p.Other (f.Epoch + 1) ov 0 p.A) := fnd_of go.ok.dist (inx _ (by rw [ho]; simp)) rfl
    rw [fm] at f1
    have hm1 := Option.some.inj f1
    have b1 : m.Counter.Low = f.Counter.Low := by rw [hm1]; rfl
    have b2 : m.Counter.High = f.Counter.High - p.A := by rw [hm1]; rfl
    rw [if_pos (by simp [c5]), law13_one_eq _ _ (by omega), obs, letM_eq]
    have o3 : oneF (applyS l p).1 p.Other = (madeF p.Other (f.Epoch + 1) ov 0 p.A, true) := by unfold oneF; rw [f2]
    have b3 : (madeF p.Other (f.Epoch + 1) ov 0 p.A).Counter.Low = 0 := rfl
    have b4 : (madeF p.Other (f.Epoch + 1) ov 0 p.A).Counter.High = p.A := rfl
    rw [o3]
    simp only []
    rw [b1, b2, b3, b4, awake13_eq, gd_nb, obs, wr_id (show _ ∧ _ by omega)]
    have : (true && (decide (v < f.Counter.Low) || decide (f.Counter.High - p.A < v) || decide (w < 0) || decide (p.A < w) || (decide (f.Counter.Low ≤ v + w) && decide (v + w ≤ f.Counter.High)))) = true := by
      simp only [Bool.true_and, Bool.or_eq_true, Bool.and_eq_true, decide_eq_true_eq]; omega
    rw [this]; rfl
  rw [if_neg (by simp [c5])]
  by_cases c6 : p.Kind = 6
  · obtain ⟨g2, hg, _⟩ := ft.two c6
    have eg : g = g2 := by rw [go.other, hg]; rfl
    have ho := go.out_eq
    unfold changeS at ho
    rw [if_neg nb, if_neg c1, if_neg (by omega), if_neg (by omega), if_pos c6] at ho
    have ho := one_out ho
    rw [ho] at hm
    simp only [List.mem_singleton] at hm
    have b1 : m.Counter.Low = wr .i64 (f.Counter.Low + g.Counter.Low) := by rw [hm]; rfl
    have b2 : m.Counter.High = wr .i64 (f.Counter.High + g.Counter.High) := by rw [hm]; rfl
    have o3 : oneF l p.Other = (g, true) := by unfold oneF; rw [hg, eg]
    rw [if_pos (by simp [c6]), law13_one_eq _ _ (by omega), obs, letM_eq, letM_eq, o3]
    simp only []
    rw [b1, b2, awake13_eq]
    simp [gd]
  · rw [if_neg (by simp [c6]), awake13_eq]; rfl
end Go.Av
