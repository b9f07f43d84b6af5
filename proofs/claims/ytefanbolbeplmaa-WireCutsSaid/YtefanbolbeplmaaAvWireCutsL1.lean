/- The plain law: what the mirrors answer. -/
import Derived.Test.YtefanbolbeplmaaAvWireCutsM1
set_option linter.unusedSimpArgs false
set_option linter.unusedVariables false
set_option linter.unusedSectionVars false
namespace Go.Av
theorem fuel_big : 1000000000000000 < fuel := by decide
theorem wr_id {n : Int} (h : -9223372036854775808 ≤ n ∧ n ≤ 9223372036854775807) : wr .i64 n = n := wrap_id h.1 h.2
theorem wr_succ {i : Nat} (h : i < 1000000000000000) : wr .i64 ((i : Int) + 1) = ((i + 1 : Nat) : Int) := by rw [wr_id (by omega)]; omega
theorem six_of {α : Type} {xs : List α} {i : Nat} (h : i < xs.length) : six xs (i : Int) = some i := by simp [six]; omega
theorem app_of {α : Type} {b : Nat} {xs ys : List α} (h : (xs.length + ys.length) * b ≤ 140737488355328) : app b xs ys = some (xs ++ ys) := by simp [app, h]
@[simp] theorem gd_t {α : Type} [Inhabited α] {p : Prop} [Decidable p] {m : Option α} (h : p) : gd p m = m := by simp [gd, h]
@[simp] theorem gd_f {α : Type} [Inhabited α] {p : Prop} [Decidable p] {m : Option α} (h : ¬ p) : gd p m = some default := by simp [gd, h]
@[simp] theorem letM_eq {α β : Type} (e : α) (k : α → Option β) : letM e k = k e := rfl
@[simp] theorem onS_l {α β γ : Type} (f : α → Option γ) (g : β → Option γ) (a : α) : onS f g (.inl a) = f a := rfl
@[simp] theorem onS_r {α β γ : Type} (f : α → Option γ) (g : β → Option γ) (b : β) : onS f g (.inr b) = g b := rfl
theorem fix_of {k i : Nat} (h : i < k) : fix_ k (i : Int) = some ⟨i, h⟩ := by simp [fix_]; omega

section
variable {σ ρ : Type} {body : σ → Option (σ ⊕ ρ)}
theorem loopM_ind' (I : Nat → σ → Prop) (N : Nat) (Q : ρ → Prop) (step : ∀ i s, i < N → I i s → (∃ t, body s = some (.inl t) ∧ I (i + 1) t) ∨ (∃ r, body s = some (.inr r) ∧ Q r)) (fin : ∀ s, I N s → ∃ r, body s = some (.inr r) ∧ Q r) :
  ∀ (k i : Nat) (s : σ), i + k = N → I i s → ∀ n, k < n → ∃ r, loopM body n s = some r ∧ Q r
 | k, i, s, hk, hI, 0, hn => by omega
 | 0, i, s, hk, hI, n + 1, hn => by
  obtain rfl : i = N := by omega
  obtain ⟨r, h1, h2⟩ := fin s hI
  exact ⟨r, by simp [loopM, h1], h2⟩
 | k + 1, i, s, hk, hI, n + 1, hn => by
  rcases step i s (by omega) hI with ⟨t, h1, h2⟩ | ⟨r, h1, h2⟩
  ·obtain ⟨r, h3, h4⟩ := loopM_ind' I N Q step fin k (i + 1) t (by omega) h2 n (by omega)
   exact ⟨r, by simp [loopM, h1, h3], h4⟩
  ·exact ⟨r, by simp [loopM, h1], h2⟩
theorem loopM_ind (I : Nat → σ → Prop) (N : Nat) (hN : N ≤ 1000000000000000) (Q : ρ → Prop) (step : ∀ i s, i < N → I i s → (∃ t, body s = some (.inl t) ∧ I (i + 1) t) ∨ (∃ r, body s = some (.inr r) ∧ Q r))
  (fin : ∀ s, I N s → ∃ r, body s = some (.inr r) ∧ Q r) {s0 : σ} (h0 : I 0 s0) : ∃ r, loopM body fuel s0 = some r ∧ Q r :=
 loopM_ind' I N Q step fin N 0 s0 (by omega) h0 fuel (by have := fuel_big; omega)
theorem loopM_eq (I : Nat → σ → Prop) (N : Nat) (hN : N ≤ 1000000000000000) (q : ρ) (step : ∀ i s, i < N → I i s → (∃ t, body s = some (.inl t) ∧ I (i + 1) t) ∨ (body s = some (.inr q)))
  (fin : ∀ s, I N s → body s = some (.inr q)) {s0 : σ} (h0 : I 0 s0) : loopM body fuel s0 = some q := by
 obtain ⟨r, h1, rfl⟩ := loopM_ind I N hN (fun r => r = q) (fun i s hi hI => (step i s hi hI).imp id fun h => ⟨q, h, rfl⟩) (fun s hI => ⟨q, fin s hI, rfl⟩) h0
 exact h1
end

/-- A loop over numbers that stops at the first one that is told to. -/
theorem loop_find {ρ : Type} {body : Int → Option (Int ⊕ ρ)} (N : Nat) (hN : N ≤ 1000000000000000) (bad : Nat → Option ρ) (fin : ρ) (hb : ∀ i, i < N → body (i : Int) = some (match bad i with | some r => .inr r | none => .inl (((i + 1 : Nat)) : Int)))
  (hf : body (N : Int) = some (.inr fin)) : loopM body fuel 0 = some (((List.range N).findSome? bad).getD fin) := by
 refine loopM_eq (fun i s => s = (i : Int) ∧ ∀ j, j < i → bad j = none) N hN _ ?_ ?_ ⟨rfl, fun j h => by omega⟩
 ·rintro i s hi ⟨rfl, hI⟩
  cases hbi : bad i with
  | none =>
   refine .inl ⟨_, by rw [hb i hi, hbi], rfl, fun j hj => ?_⟩
   rcases Nat.lt_succ_iff_lt_or_eq.1 hj with h | rfl
   ·exact hI j h
   ·exact hbi
  | some r =>
   refine .inr ?_
   rw [hb i hi, hbi]
   have : (List.range N).findSome? bad = some r := by
    rw [show N = i + (N - i) from by omega, List.range_add, List.findSome?_append]
    have h1 : (List.range i).findSome? bad = none := by
     rw [List.findSome?_eq_none_iff]; intro x hx; exact hI x (by simpa using hx)
    rw [h1]
    obtain ⟨m, hm⟩ : ∃ m, N - i = m + 1 := ⟨N - i - 1, by omega⟩
    rw [hm, List.range_succ_eq_map]
    simp [hbi]
   simp [this]
 ·rintro s ⟨rfl, hI⟩
  rw [hf]
  have : (List.range N).findSome? bad = none := by rw [List.findSome?_eq_none_iff]; intro x hx; exact hI x (by simpa using hx)
  simp [this]
/-- A loop over numbers that stops at the first one that is not good. -/
theorem loop_all {ρ ξ : Type} {body : Int → Option (Int ⊕ (ξ ⊕ ρ))} (N : Nat) (hN : N ≤ 1000000000000000) (good : Nat → Prop) [DecidablePred good] (r : ρ) (x : ξ)
  (hb : ∀ i, i < N → body (i : Int) = some (if good i then .inl (((i + 1 : Nat)) : Int) else .inr (.inr r))) (hf : body (N : Int) = some (.inr (.inl x))) :
  loopM body fuel 0 = some (if ∀ i, i < N → good i then .inl x else .inr r) := by
 have h := loop_find (body := body) N hN (fun i => if good i then none else some (.inr r)) (.inl x) (fun i hi => by rw [hb i hi]; by_cases h : good i <;> simp [-List.getD_eq_getElem?_getD, h]) hf
 rw [h]
 by_cases hg : ∀ i, i < N → good i
 ·have : (List.range N).findSome? (fun i => if good i then none else some (.inr r : ξ ⊕ ρ)) = none := by
   rw [List.findSome?_eq_none_iff]; intro i hi; simp [-List.getD_eq_getElem?_getD, hg i (by simpa using hi)]
  rw [this]; simp [-List.getD_eq_getElem?_getD, if_pos hg]
 ·obtain ⟨v, hv⟩ : ∃ v, (List.range N).findSome? (fun i => if good i then none else some (.inr r : ξ ⊕ ρ)) = some v := by
   cases hc : (List.range N).findSome? (fun i => if good i then none else some (.inr r : ξ ⊕ ρ)) with
   | some v => exact ⟨v, rfl⟩
   | none =>
    rw [List.findSome?_eq_none_iff] at hc
    exact (hg fun i hi => by have := hc i (by simpa using hi); by_cases h : good i; exact h; simp [-List.getD_eq_getElem?_getD, h] at this).elim
  obtain ⟨i, hi, hv2⟩ := List.exists_of_findSome?_eq_some hv
  rw [hv, if_neg hg]
  by_cases h : good i <;> simp [-List.getD_eq_getElem?_getD, h] at hv2
  simp [-List.getD_eq_getElem?_getD, hv2]

def IsN (n : Int) : Prop := -1099511627776 ≤ n ∧ n ≤ 1099511627776
instance (n : Int) : Decidable (IsN n) := by unfold IsN; infer_instance
theorem sd {b : Bool} {P : Prop} [Decidable P] (h : b = true ↔ P) : some b = some (decide P) := by rw [show b = decide P from Bool.eq_iff_iff.2 (by simpa using h)]
theorem num_Is_eq (n : Int) : num_Is n = some (decide (IsN n)) := sd (by simp [-List.getD_eq_getElem?_getD, IsN])
theorem gd_and {p b : Bool} : gd (p = true) (some b) = some (if p = true then b else false) := by cases p <;> rfl
theorem wr_pred {i : Nat} (h0 : 0 < i) (h : i < 1000000000000000) : wr .i64 ((i : Int) - 1) = ((i - 1 : Nat) : Int) := by rw [wr_id (by omega)]; omega
def Cnt (n : Int) : Prop := 0 ≤ n ∧ n ≤ 1099511627776
instance (n : Int) : Decidable (Cnt n) := by unfold Cnt; infer_instance
def HOk (h : THold) : Prop := 0 ≤ h.Replica ∧ h.Replica < 16 ∧ 1 ≤ h.Number ∧ h.Number ≤ 1099511627776 ∧ Cnt h.Amount ∧ Cnt h.Due ∧ 1 ≤ h.State ∧ h.State ≤ 3
instance (h : THold) : Decidable (HOk h) := by unfold HOk; infer_instance
theorem hold_count_eq (n : Int) : hold_count n = some (decide (Cnt n)) := by
 unfold hold_count
 rw [num_Is_eq]
 by_cases h : 0 ≤ n
 ·rw [gd_t (by simp [h])]; refine sd ?_; simp only [Bool.and_eq_true, decide_eq_true_eq]; unfold IsN Cnt; omega
 ·rw [gd_f (by simp [-List.getD_eq_getElem?_getD, h])]; refine sd ?_; simp [-List.getD_eq_getElem?_getD, h, Cnt]
theorem hold_Right_eq (h : THold) : hold_Right h = some (decide (HOk h)) := by
 unfold hold_Right
 simp only [num_Is_eq, hold_count_eq, letM_eq, gd_and, Option.bind]
 refine sd ?_
 simp only [Bool.and_eq_true, Bool.if_false_right, decide_eq_true_eq]
 first | unfold HOk IsN Cnt | unfold HOk Cnt
 omega
def HLt (a b : THold) : Prop := a.Replica < b.Replica ∨ (a.Replica = b.Replica ∧ a.Number < b.Number)
instance (a b : THold) : Decidable (HLt a b) := by unfold HLt; infer_instance
theorem HLt.trans {a b c : THold} (h : HLt a b) (k : HLt b c) : HLt a c := by unfold HLt at *; omega
theorem cmp_ge (a b : THold) : 0 ≤ holdCmp a b ↔ ¬ HLt a b := by
 unfold holdCmp HLt
 by_cases h : a.Replica = b.Replica
 ·by_cases h1 : a.Number = b.Number
  ·simp [-List.getD_eq_getElem?_getD, h, h1]
  ·by_cases h2 : a.Number < b.Number <;> simp [-List.getD_eq_getElem?_getD, h, h1, h2]
 ·by_cases h2 : a.Replica < b.Replica <;> simp [-List.getD_eq_getElem?_getD, h, h2]
def Rts (l : List THold) : Prop := (∀ h ∈ l, HOk h) ∧ l.Pairwise HLt ∧ l.length ≤ 16
instance (l : List THold) : Decidable (Rts l) := by unfold Rts; infer_instance
def Link (l : List THold) (i : Nat) : Prop := HOk (l.getD i default) ∧ (0 < i → HLt (l.getD (i - 1) default) (l.getD i default))
instance (l : List THold) : DecidablePred (Link l) := fun i => by unfold Link; infer_instance
theorem links_iff (l : List THold) : (∀ i, i < l.length → Link l i) ↔ (∀ h ∈ l, HOk h) ∧ l.Pairwise HLt := by
 constructor
 ·intro h
  refine ⟨fun x hx => ?_, ?_⟩
  ·obtain ⟨i, hi, rfl⟩ := List.getElem_of_mem hx
   simpa [List.getD, hi] using (h i hi).1
  ·rw [List.pairwise_iff_getElem]
   intro i j hi hj hij
   induction j with
   | zero => omega
   | succ j ih =>
    have h1 := (h (j + 1) hj).2 (by omega)
    have e1 : l.getD (j + 1 - 1) default = l[j] := by simp [List.getD, show j < l.length by omega]
    have e2 : l.getD (j + 1) default = l[j + 1] := by simp [List.getD, hj]
    rw [e1, e2] at h1
    rcases Nat.lt_succ_iff_lt_or_eq.1 hij with h2 | rfl
    ·exact (ih (by omega) h2).trans h1
    ·exact h1
 ·rintro ⟨h1, h2⟩ i hi
  rw [List.pairwise_iff_getElem] at h2
  refine ⟨by rw [show l.getD i default = l[i] by simp [List.getD, hi]]; exact h1 _ (List.getElem_mem hi), fun h0 => ?_⟩
  rw [show l.getD i default = l[i] by simp [List.getD, hi], show l.getD (i - 1) default = l[i - 1] by simp [List.getD, show i - 1 < l.length by omega]]
  exact h2 _ _ (by omega) hi (by omega)

theorem hold_Rights_eq (l : List THold) (hl : l.length ≤ 1000000000000000) : hold_Rights l = some (decide (Rts l)) := by
 unfold hold_Rights
 rw [loop_all l.length hl (Link l) false () (fun i hi => ?_) (by simp [-List.getD_eq_getElem?_getD, hold_Rights_L1])]
 ·by_cases h : ∀ i, i < l.length → Link l i
  ·rw [if_pos h]
   have := (links_iff l).1 h
   refine sd ?_
   simp only [Rts, this.1, this.2, true_and, decide_eq_true_eq]
   exact ⟨fun h => ⟨this.1, by omega⟩, fun h => by omega⟩
  ·rw [if_neg h]
   have : ¬ Rts l := fun h2 => h ((links_iff l).2 ⟨h2.1, h2.2.1⟩)
   simp [-List.getD_eq_getElem?_getD, this]
 ·simp only [hold_Rights_L1, hold_Right_eq, six_of hi, letM_eq, Option.bind]
  rw [if_pos (by simp; omega)]
  simp only [wr_succ (show i < 1000000000000000 by omega)]
  by_cases h1 : HOk (l.getD i default)
  ·by_cases h0 : 0 < i
   ·rw [gd_t (by simp [-List.getD_eq_getElem?_getD, h1, h0]), wr_pred h0 (by omega), six_of (by omega)]
    simp only [Option.bind]
    rw [gd_t (by simp [-List.getD_eq_getElem?_getD, h1, h0]), hold_compare_eq]
    simp only [Option.bind, cmp_ge, Link, h1, h0, true_and]
    by_cases h2 : HLt (l.getD (i - 1) default) (l.getD i default) <;> simp [-List.getD_eq_getElem?_getD, h2, h0]
   ·obtain rfl : i = 0 := by omega
    simp [-List.getD_eq_getElem?_getD, h1, Link]
  ·have : ¬ Link l i := fun h => h1 h.1
   rw [gd_f (by simp [-List.getD_eq_getElem?_getD, h1])]
   simp only [Option.bind]
   rw [gd_f (by simp [-List.getD_eq_getElem?_getD, h1])]
   simp [-List.getD_eq_getElem?_getD, h1, this]
def sumStep (r : Int) (s : Int) (h : THold) : Int := if (decide (h.Replica = r) && decide (h.State = 1)) = true then min (wr .i64 (s + h.Amount)) 1099511627776 else s
def SumS (l : List THold) (r : Int) : Int := l.foldl (sumStep r) 0
def due (r t : Int) (h : THold) : Bool := decide (h.Replica = r) && decide (h.State = 1) && decide (h.Due < t)
def ex (r t : Int) (h : THold) : THold := if due r t h = true then { h with State := 3 } else h
def isK (r n : Int) (h : THold) : Bool := decide (h.Replica = r) && decide (h.Number = n)
def EndS (l : List THold) (r n st : Int) : List THold × Int × Int :=
 if Rts l ∧ (st = 2 ∨ st = 3) then (match l.findIdx? (isK r n) with
  | none => ([], 0, 10)
  | some i => if (l.getD i default).State = 1 then (l.set i { l.getD i default with State := st }, (l.getD i default).Amount, 0) else ([], 0, 12))
 else ([], 0, 1)
def putS : List THold → THold → List THold
 | [], x => [x]
 | h :: t, x => if HLt h x then h :: putS t x else x :: h :: t
theorem putS_length (x : THold) : ∀ l : List THold, (putS l x).length = l.length + 1
 | [] => rfl
 | h :: t => by unfold putS; split <;> simp [putS_length x t]
theorem putS_perm (x : THold) : ∀ l : List THold, (putS l x).Perm (x :: l)
 | [] => .refl _
 | h :: t => by
  unfold putS
  split
  ·exact ((putS_perm x t).cons h).trans (.swap x h t)
  ·exact .refl _
theorem putS_mem {x y : THold} {l : List THold} : y ∈ putS l x ↔ y = x ∨ y ∈ l := by rw [(putS_perm x l).mem_iff, List.mem_cons]
/-- Another key. -/
def Off (h x : THold) : Prop := ¬ (h.Replica = x.Replica ∧ h.Number = x.Number)
theorem HLt.off {a b : THold} (h : HLt a b) : Off a b ∧ Off b a := by unfold HLt Off at *; omega
def val (r : Int) (h : THold) : Int := if h.Replica = r ∧ h.State = 1 then h.Amount else 0
def bump (x h : THold) : THold := { x with State := max x.State h.State }
def upd (l : List THold) (h : THold) : List THold := l.map fun x => if isK h.Replica h.Number x = true then bump x h else x
def fits (x h : THold) : Prop := x.Amount = h.Amount ∧ x.Due = h.Due
instance (x h : THold) : Decidable (fits x h) := by unfold fits; infer_instance
def lookH (l : List THold) (r n : Int) : Option THold := l.find? (isK r n)
def jstep (ins : List THold → THold → List THold) (m : List THold) (h : THold) : Option (List THold) :=
 match lookH m h.Replica h.Number with
 | none => some (ins m h)
 | some x => if fits x h then some (upd m h) else none

theorem isK_iff {r n : Int} {x : THold} : isK r n x = true ↔ x.Replica = r ∧ x.Number = n := by simp [isK]
theorem Off.symm {a b : THold} (h : Off a b) : Off b a := by unfold Off at *; omega
theorem lookH_none {l : List THold} {r n : Int} : lookH l r n = none ↔ ∀ x ∈ l, ¬ (x.Replica = r ∧ x.Number = n) := by
 rw [lookH, List.find?_eq_none]
 exact ⟨fun h x hx hk => h x hx (isK_iff.2 hk), fun h x hx hk => h x hx (isK_iff.1 hk)⟩
theorem upd_off {l : List THold} (h : THold) (ho : l.Pairwise Off) : (upd l h).Pairwise Off := by
 unfold upd
 rw [List.pairwise_map]
 refine ho.imp fun {a b} k => ?_
 unfold Off at *
 split <;> split <;> exact k
theorem upd_key (s : List THold) (h : THold) (j : Nat) : ((upd s h).getD j default).Replica = (s.getD j default).Replica ∧ ((upd s h).getD j default).Number = (s.getD j default).Number := by
 unfold upd
 rw [List.getD, List.getD, List.getElem?_map]
 cases s[j]? with
 | none => exact ⟨rfl, rfl⟩
 | some x => simp only [Option.map_some, Option.getD_some]; split <;> exact ⟨rfl, rfl⟩
def InvJ (a b : List THold) (i : Nat) (s : List THold) : Prop :=
 s.Pairwise Off ∧ a.length ≤ s.length ∧ s.length ≤ a.length + i ∧ (∀ j, j < a.length → (s.getD j default).Replica = (a.getD j default).Replica ∧ (s.getD j default).Number = (a.getD j default).Number) ∧
  ∀ j, a.length ≤ j → j < s.length → ∃ q, q < i ∧ (s.getD j default).Replica = (b.getD q default).Replica ∧ (s.getD j default).Number = (b.getD q default).Number

theorem InvJ.step {a b s s' : List THold} {i : Nat} (hJ : InvJ a b i s) (hi : i < b.length) (hs : jstep (fun l h => l ++ [h]) s (b.getD i default) = some s') : InvJ a b (i + 1) s' := by
 obtain ⟨h1, h2, h3, h4, h5⟩ := hJ
 unfold jstep at hs
 cases hl : lookH s (b.getD i default).Replica (b.getD i default).Number with
 | none =>
  rw [hl] at hs; simp only [Option.some.injEq] at hs; subst hs
  have hn := lookH_none.1 hl
  refine ⟨?_, by simp; omega, by simp; omega, fun j hj => ?_, fun j hj hj2 => ?_⟩
  ·rw [List.pairwise_append]
   refine ⟨h1, by simp, fun x hx y hy => ?_⟩
   rw [List.mem_singleton.1 hy]
   exact fun k => hn x hx k
  ·rw [show (s ++ [b.getD i default]).getD j default = s.getD j default by rw [List.getD, List.getElem?_append_left (by omega)]; rfl]
   exact h4 j hj
  ·by_cases hj3 : j < s.length
   ·rw [show (s ++ [b.getD i default]).getD j default = s.getD j default by rw [List.getD, List.getElem?_append_left hj3]; rfl]
    obtain ⟨q, h6, h7⟩ := h5 j hj hj3
    exact ⟨q, by omega, h7⟩
   ·simp only [List.length_append, List.length_singleton] at hj2
    obtain rfl : j = s.length := by omega
    rw [show (s ++ [b.getD i default]).getD s.length default = b.getD i default by rw [List.getD, List.getElem?_append_right (Nat.le_refl _), Nat.sub_self]; rfl]
    exact ⟨i, by omega, rfl, rfl⟩
 | some x =>
  rw [hl] at hs; simp only at hs
  split at hs
  ·simp only [Option.some.injEq] at hs; subst hs
   have hle : (upd s (b.getD i default)).length = s.length := by simp only [upd, List.length_map]
   refine ⟨upd_off _ h1, by omega, by omega, fun j hj => ?_, fun j hj hj2 => ?_⟩
   ·rw [(upd_key s _ j).1, (upd_key s _ j).2]; exact h4 j hj
   ·obtain ⟨q, h6, h7⟩ := h5 j hj (by omega)
    exact ⟨q, by omega, by rw [(upd_key s _ j).1, (upd_key s _ j).2]; exact h7⟩
  ·cases hs
def cf : Option THold → Option THold → Prop
 | some x, some y => ¬ fits x y
 | _, _ => False
theorem fits.symm {x y : THold} (h : fits x y) : fits y x := ⟨h.1.symm, h.2.symm⟩
theorem checked_eq (a : Int) (l : List Int) (hl : l.length ≤ 1000000000000) : num_checked a l = some (if ∀ x ∈ l ++ [a], IsN x then (a, 0) else (0, 2)) := by
 unfold num_checked
 rw [app_of (by simp; omega)]
 simp only [Option.bind]
 have hn : (l ++ [a]).length ≤ 1000000000000000 := by simp; omega
 generalize l ++ [a] = m at hn
 rw [loop_all m.length hn (fun i => IsN (m.getD i default)) (0, 2) () (fun i hi => ?_) (by simp [num_checked_L1])]
 ·by_cases h : ∀ x ∈ m, IsN x
  ·rw [if_pos (fun i hi => h _ (by simp [List.getD, hi])), if_pos h]; rfl
  ·rw [if_neg (fun h2 => h fun x hx => by obtain ⟨i, hi, rfl⟩ := List.getElem_of_mem hx; simpa [List.getD, hi] using h2 i hi), if_neg h]; rfl
 ·simp only [num_checked_L1, six_of hi, num_Is_eq, Option.bind]
  rw [if_pos (by simp; omega)]
  simp only [wr_succ (show i < 1000000000000000 by omega)]
  by_cases h : IsN (m.getD i default)
  ·rw [if_neg (by rw [decide_eq_true h]; decide), if_pos h]
  ·rw [if_pos (by rw [decide_eq_false h]; rfl), if_neg h]

def addS (a b : Int) : Int × Int := if IsN a ∧ IsN b ∧ IsN (a + b) then (a + b, 0) else (0, 2)
theorem num_Add_eq (a b : Int) : num_Add a b = some (addS a b) := by
 unfold num_Add addS
 rw [checked_eq _ _ (by simp)]
 simp only [Option.bind]
 by_cases h : IsN a ∧ IsN b
 ·have hw : wr .i64 (a + b) = a + b := wr_id (by unfold IsN at h; omega)
  rw [hw]
  by_cases h2 : IsN (a + b)
  ·rw [if_pos (by simp [h.1, h.2, h2]), if_pos ⟨h.1, h.2, h2⟩]
  ·rw [if_neg (by simp [h.1, h.2, h2]), if_neg (fun x => h2 x.2.2)]
 ·rw [if_neg (fun x => h ⟨x a (by simp), x b (by simp)⟩), if_neg (fun x => h ⟨x.1, x.2.1⟩)]
/-- All, added; none, if it is too great on the way. -/
def sumO : Int → List Int → Option Int
 | n, [] => some n
 | n, x :: t => if (addS n x).2 = 0 then sumO (addS n x).1 t else none
def sumS (l : List Int) : Int × Int := match sumO 0 l with | some n => (n, 0) | none => (0, 2)
theorem addS_err (a b : Int) (h : (addS a b).2 ≠ 0) : (addS a b).2 = 2 := by
 by_cases hc : IsN a ∧ IsN b ∧ IsN (a + b)
 ·rw [addS, if_pos hc] at h; exact (h rfl).elim
 ·rw [addS, if_neg hc]
theorem sum_loop' (l : List Int) {ρ : Type} {body : Int × Int → Option ((Int × Int) ⊕ ρ)} (fin : Int → Option ρ) (er : Option ρ)
  (hb : ∀ (i : Nat) (n : Int), i < l.length → body ((i : Int), n) = if (addS n (l.getD i default)).2 = 0 then some (.inl ((((i + 1 : Nat)) : Int), (addS n (l.getD i default)).1)) else er.map .inr) (hf : ∀ n, body ((l.length : Int), n) = (fin n).map .inr) :
  ∀ (k i : Nat) (n : Int), i + k = l.length → ∀ m, k < m → loopM body m ((i : Int), n) = match sumO n (l.drop i) with | some n => fin n | none => er
 | k, i, n, hk, 0, hm => by omega
 | 0, i, n, hk, m + 1, hm => by
  obtain rfl : i = l.length := by omega
  rw [List.drop_length]
  simp only [loopM, hf, sumO]
  cases fin n <;> rfl
 | k + 1, i, n, hk, m + 1, hm => by
  have hi : i < l.length := by omega
  have hd : l.drop i = l.getD i default :: l.drop (i + 1) := by rw [List.drop_eq_getElem_cons hi]; simp [List.getD, hi]
  rw [hd, sumO]
  simp only [loopM, hb i n hi]
  by_cases h : (addS n (l.getD i default)).2 = 0
  ·rw [if_pos h, if_pos h]
   exact sum_loop' l fin er hb hf k (i + 1) _ (by omega) m (by omega)
  ·rw [if_neg h, if_neg h]
   cases er <;> rfl
theorem sum_loop (l : List Int) (hl : l.length ≤ 1000000000000) {ρ : Type} {body : Int × Int → Option ((Int × Int) ⊕ ρ)} (fin : Int → Option ρ) (er : Option ρ)
  (hb : ∀ (i : Nat) (n : Int), i < l.length → body ((i : Int), n) = if (addS n (l.getD i default)).2 = 0 then some (.inl ((((i + 1 : Nat)) : Int), (addS n (l.getD i default)).1)) else er.map .inr) (hf : ∀ n, body ((l.length : Int), n) = (fin n).map .inr) :
  loopM body fuel (0, 0) = match sumO 0 l with | some n => fin n | none => er :=
 sum_loop' l fin er hb hf l.length 0 0 (by omega) fuel (by have := fuel_big; omega)
theorem num_Sum_eq (l : List Int) (hl : l.length ≤ 1000000000000) : num_Sum l = some (sumS l) := by
 have h1 : num_Sum_1 l = sumO 0 l := by
  unfold num_Sum_1
  rw [sum_loop l hl (fun n => some n) none (fun i n hi => ?_) (fun n => by simp [num_Sum_1_L1])]
  ·cases sumO 0 l <;> rfl
  ·simp only [num_Sum_1_L1, six_of hi, num_Add_eq, num_Must, Option.bind]
   rw [if_pos (by simp; omega)]
   simp only [wr_succ (show i < 1000000000000000 by omega)]
   by_cases h : (addS n (l.getD i default)).2 = 0
   ·rw [if_neg (by rw [decide_eq_true h]; decide), if_pos h]
   ·rw [if_pos (by rw [decide_eq_false h]; rfl), if_neg h]; rfl
 have h2 : num_Sum_P l = match sumO 0 l with | some _ => none | none => some 2 := by
  unfold num_Sum_P
  rw [sum_loop l hl (fun n => none) (some 2) (fun i n hi => ?_) (fun n => by simp [num_Sum_P_L1])]
  simp only [num_Sum_P_L1, six_of hi, num_Add_eq, Option.bind]
  rw [if_pos (by simp; omega)]
  simp only [wr_succ (show i < 1000000000000000 by omega)]
  by_cases h : (addS n (l.getD i default)).2 = 0
  ·rw [if_pos (by rw [decide_eq_true h]), if_pos h]
  ·rw [if_neg (by rw [decide_eq_false h]; decide), if_neg h, addS_err _ _ h]; rfl
 unfold num_Sum sumS
 rw [h1, h2]
 cases sumO 0 l <;> rfl
def VOk (v : Vector Int 16) : Prop := ∀ k : Fin 16, 0 ≤ v.get k ∧ v.get k ≤ 1099511627776
instance (v : Vector Int 16) : Decidable (VOk v) := by unfold VOk; infer_instance
def at16 (v : Vector Int 16) (i : Nat) : Int := if h : i < 16 then v.get ⟨i, h⟩ else 0
theorem VOk_iff (v : Vector Int 16) : (∀ i, i < 16 → 0 ≤ at16 v i ∧ at16 v i ≤ 1099511627776) ↔ VOk v := by
 constructor
 ·intro h k
  have := h k.1 k.2
  unfold at16 at this
  rw [dif_pos k.2] at this
  exact this
 ·intro h i hi
  unfold at16
  rw [dif_pos hi]
  exact h ⟨i, hi⟩
def ROk (r : TRights) : Prop := VOk r.Given ∧ VOk r.Used ∧ ∀ k : Fin 16, VOk (r.Moved.get k) ∧ (r.Moved.get k).get k = 0
instance (r : TRights) : Decidable (ROk r) := by unfold ROk; infer_instance
def row (r : TRights) (i : Nat) : Prop := ∀ h : i < 16, VOk (r.Moved.get ⟨i, h⟩) ∧ (r.Moved.get ⟨i, h⟩).get ⟨i, h⟩ = 0
instance (r : TRights) (i : Nat) : Decidable (row r i) := by unfold row; infer_instance
/-- What was given is what must be. -/
def gives (g u : Vector Int 16) (room : Int) : Prop := (sumS g.toList).2 = 0 ∧ (sumS u.toList).2 = 0 ∧ (addS room (sumS u.toList).1).2 = 0 ∧ (sumS g.toList).1 = (addS room (sumS u.toList).1).1
instance (g u : Vector Int 16) (room : Int) : Decidable (gives g u room) := by unfold gives; infer_instance
def COk (c : TCounter) : Prop := IsN c.Init ∧ IsN c.Low ∧ IsN c.High ∧ c.Low ≤ c.Init ∧ c.Init ≤ c.High ∧ ROk c.Down ∧ ROk c.Up ∧ gives c.Down.Given c.Up.Used (c.Init - c.Low) ∧ gives c.Up.Given c.Down.Used (c.High - c.Init)
instance (c : TCounter) : Decidable (COk c) := by unfold COk; infer_instance
theorem gd_nb {p : Prop} [Decidable p] {b : Bool} : gd p (some b) = some (if p then b else false) := by by_cases h : p <;> simp [gd, h]
def negs (v : Vector Int 16) : List Int := (List.range 16).map fun i => wr .i64 (0 - at16 v i)
def valL (c : TCounter) : List Int := [c.Init] ++ c.Up.Used.toList ++ negs c.Down.Used
def rowAt (r : TRights) (i : Nat) : Vector Int 16 := if h : i < 16 then r.Moved.get ⟨i, h⟩ else default
def freeL (r : TRights) (k : Nat) : List Int := [at16 r.Given k] ++ (List.range 16).map (fun i => at16 (rowAt r i) k) ++ [wr .i64 (0 - at16 r.Used k)] ++ negs (rowAt r k)
def freeS (r : TRights) (k : Int) : Int × Int := if 0 ≤ k ∧ k < 16 then sumS (freeL r k.toNat) else (0, 1)
theorem vec_Right_eq (v : Vector Int 16) : vec_Right v = some (decide (VOk v)) := by
 unfold vec_Right
 rw [loop_all 16 (by omega) (fun i => 0 ≤ at16 v i ∧ at16 v i ≤ 1099511627776) false () (fun i hi => ?_) (by simp [vec_Right_L1])]
 ·by_cases h : VOk v
  ·rw [if_pos ((VOk_iff v).2 h), decide_eq_true h]; rfl
  ·rw [if_neg (fun k => h ((VOk_iff v).1 k)), decide_eq_false h]; rfl
 ·have e : at16 v i = v.get ⟨i, hi⟩ := by unfold at16; rw [dif_pos hi]
  simp only [vec_Right_L1, fix_of hi, num_Is_eq, Option.bind, e]
  rw [if_pos (by simp; omega)]
  simp only [wr_succ (show i < 1000000000000000 by omega)]
  by_cases h1 : v.get ⟨i, hi⟩ < 0
  ·rw [gd_f (by rw [decide_eq_true h1]; decide)]
   simp only []
   rw [if_pos (by rw [decide_eq_true h1]; rfl), if_neg (by omega)]
  ·rw [gd_t (by rw [decide_eq_false h1])]
   simp only []
   by_cases h2 : IsN (v.get ⟨i, hi⟩)
   ·rw [if_neg (by rw [decide_eq_false h1, decide_eq_true h2]; decide), if_pos (by unfold IsN at h2; omega)]
   ·rw [if_pos (by rw [decide_eq_false h2]; simp), if_neg (by unfold IsN at h2; omega)]
theorem rights_Right_eq (r : TRights) : rights_Right r = some (decide (ROk r)) := by
 unfold rights_Right
 rw [vec_Right_eq, vec_Right_eq]
 simp only [Option.bind, gd_nb]
 by_cases h : VOk r.Given ∧ VOk r.Used
 ·rw [if_neg (by simp [h.1, h.2])]
  rw [loop_all 16 (by omega) (row r) false () (fun i hi => ?_) (by simp [rights_Right_L1])]
  ·have hrows : (∀ i : Nat, i < 16 → row r i) ↔ ∀ k : Fin 16, VOk (r.Moved.get k) ∧ (r.Moved.get k).get k = 0 :=
    ⟨fun h k => h k.1 k.2 k.2, fun h i hi _ => h ⟨i, hi⟩⟩
   by_cases h2 : ∀ i : Nat, i < 16 → row r i
   ·rw [if_pos h2, decide_eq_true (show ROk r from ⟨h.1, h.2, hrows.1 h2⟩)]; rfl
   ·rw [if_neg h2, decide_eq_false (show ¬ ROk r from fun k => h2 (hrows.2 k.2.2))]; rfl
  ·have hrow : row r i ↔ VOk (r.Moved.get ⟨i, hi⟩) ∧ (r.Moved.get ⟨i, hi⟩).get ⟨i, hi⟩ = 0 := ⟨fun h => h hi, fun h _ => h⟩
   simp only [rights_Right_L1, fix_of hi, vec_Right_eq, letM_eq, Option.bind]
   rw [if_pos (by simp; omega)]
   simp only [wr_succ (show i < 1000000000000000 by omega)]
   by_cases h1 : VOk (r.Moved.get ⟨i, hi⟩)
   ·rw [gd_t (by rw [decide_eq_true h1]; rfl)]
    simp only []
    by_cases h2 : (r.Moved.get ⟨i, hi⟩).get ⟨i, hi⟩ = 0
    ·rw [if_neg (by rw [decide_eq_true h1, decide_eq_true h2]; decide), if_pos (hrow.2 ⟨h1, h2⟩)]
    ·rw [if_pos (by rw [decide_eq_false h2]; simp), if_neg (fun k => h2 (hrow.1 k).2)]
   ·rw [gd_f (by rw [decide_eq_false h1]; decide)]
    simp only []
    rw [if_pos (by rw [decide_eq_false h1]; rfl), if_neg (fun k => h1 (hrow.1 k).1)]
 ·have hn : ¬ ROk r := fun k => h ⟨k.1, k.2.1⟩
  rw [if_pos, decide_eq_false hn]
  by_cases h1 : VOk r.Given <;> by_cases h2 : VOk r.Used <;> simp [h1, h2]
  exact h ⟨h1, h2⟩
def bAt (s : ByteArray) (i : Nat) : Int := (bix s (i : Int)).getD 0
theorem bix_of {s : ByteArray} {i : Nat} (h : i < s.size) : bix s (i : Int) = some (bAt s i) := by
 unfold bAt bix
 rw [dif_pos (by omega)]
 rfl
def NameOk (s : ByteArray) : Prop := (∀ i : Nat, i < s.size → 33 ≤ bAt s i ∧ bAt s i ≤ 126) ∧ 1 ≤ s.size ∧ s.size ≤ 8
instance (s : ByteArray) : Decidable (NameOk s) := by unfold NameOk; infer_instance
theorem field_Name_eq (s : ByteArray) (hs : s.size ≤ 1000000000000000) : field_Name s = some (decide (NameOk s)) := by
 unfold field_Name
 rw [loop_all s.size hs (fun i => 33 ≤ bAt s i ∧ bAt s i ≤ 126) false () (fun i hi => ?_) (by simp [field_Name_L1])]
 ·by_cases h : ∀ i : Nat, i < s.size → 33 ≤ bAt s i ∧ bAt s i ≤ 126
  ·rw [if_pos h]
   refine sd ?_
   simp only [NameOk, Bool.and_eq_true, decide_eq_true_eq]
   exact ⟨fun k => ⟨h, by omega, by omega⟩, fun k => ⟨by omega, by omega⟩⟩
  ·rw [if_neg h, decide_eq_false (p := NameOk s) (fun k => h k.1)]; rfl
 ·simp only [field_Name_L1, bix_of hi, Option.bind]
  rw [if_pos (by simp; omega)]
  simp only [wr_succ (show i < 1000000000000000 by omega)]
  by_cases h1 : bAt s i < 33
  ·rw [gd_f (by rw [decide_eq_true h1]; decide)]
   simp only []
   rw [if_pos (by rw [decide_eq_true h1]; rfl), if_neg (by omega)]
  ·rw [gd_t (by rw [decide_eq_false h1])]
   simp only []
   by_cases h2 : 126 < bAt s i
   ·rw [if_pos (by rw [decide_eq_true h2]; simp), if_neg (by omega)]
   ·rw [if_neg (by rw [decide_eq_false h1, decide_eq_false h2]; decide), if_pos (by omega)]

def cnt (x : Int) : Prop := 0 ≤ x ∧ IsN x
instance (x : Int) : Decidable (cnt x) := by unfold cnt; infer_instance
def LOk (l : TLock) : Prop := cnt l.Seq ∧ cnt l.Ver ∧ 0 ≤ l.Holder ∧ l.Holder ≤ 15 ∧ IsN l.Value
instance (l : TLock) : Decidable (LOk l) := by unfold LOk; infer_instance
def zeroC : TCounter := ⟨0, 0, 0, default, default⟩
def zeroL : TLock := ⟨0, 0, 0, 0⟩
def FOk (f : TField) : Prop := NameOk f.Name ∧ cnt f.Epoch ∧ ((f.Kind = 1 ∧ COk f.Counter ∧ Rts f.Holds ∧ f.Lock = zeroL) ∨ (f.Kind = 2 ∧ LOk f.Lock ∧ f.Holds = [] ∧ f.Counter = zeroC))
instance (f : TField) : Decidable (FOk f) := by unfold FOk; infer_instance
def only (d : Int) : Vector Int 16 := (default : Vector Int 16).set 0 d
def NewOk (i l h : Int) : Prop := IsN i ∧ IsN l ∧ IsN h ∧ l ≤ i ∧ i ≤ h ∧ IsN (h - l)
instance (i l h : Int) : Decidable (NewOk i l h) := by unfold NewOk; infer_instance
def LNewOk (k v : Int) : Prop := (0 ≤ k ∧ k < 16) ∧ IsN v
instance (k v : Int) : Decidable (LNewOk k v) := by unfold LNewOk; infer_instance
def set16 (v : Vector Int 16) (i : Nat) (x : Int) : Vector Int 16 := if h : i < 16 then v.set i x h else v
def setRow (m : Vector (Vector Int 16) 16) (i : Nat) (x : Vector Int 16) : Vector (Vector Int 16) 16 := if h : i < 16 then m.set i x h else m
def growS (v : Vector Int 16) (k n : Int) : Vector Int 16 × Int :=
 if 0 ≤ k ∧ k < 16 ∧ 0 ≤ n then (if (addS (at16 v k.toNat) n).2 = 0 then (set16 v k.toNat (addS (at16 v k.toNat) n).1, 0) else (default, (addS (at16 v k.toNat) n).2)) else (default, 1)
def giveS (r : TRights) (k n : Int) : TRights × Int := if (growS r.Given k n).2 = 0 then ({ r with Given := (growS r.Given k n).1 }, 0) else (default, (growS r.Given k n).2)
def enoughS (r : TRights) (k n : Int) : Int := if n < 0 then 1 else if (freeS r k).2 = 0 then (if (freeS r k).1 < n then 8 else 0) else (freeS r k).2
def useS (r : TRights) (k n : Int) : TRights × Int :=
 if enoughS r k n = 0 then (if (growS r.Used k n).2 = 0 then ({ r with Used := (growS r.Used k n).1 }, 0) else (default, (growS r.Used k n).2)) else (default, enoughS r k n)
def decS (c : TCounter) (k n : Int) : TCounter × Int :=
 if (useS c.Down k n).2 = 0 then (if (giveS c.Up k n).2 = 0 then ({ c with Down := (useS c.Down k n).1, Up := (giveS c.Up k n).1 }, 0) else (default, (giveS c.Up k n).2)) else (default, (useS c.Down k n).2)
theorem vec_Sum_eq (v : Vector Int 16) : vec_Sum v = some (sumS v.toList) := by
 unfold vec_Sum
 rw [num_Sum_eq _ (by simp)]; rfl
theorem counter_given_eq (a b : TRights) (room : Int) : counter_given a b room = some (decide (gives a.Given b.Used room)) := by
 unfold counter_given
 simp only [vec_Sum_eq, num_Add_eq, Option.bind, letM_eq]
 refine sd ?_
 simp only [Bool.and_eq_true, decide_eq_true_eq, and_assoc]
 exact Iff.rfl
theorem counter_Right_eq (c : TCounter) : counter_Right c = some (decide (COk c)) := by
 unfold counter_Right
 simp only [num_Is_eq, rights_Right_eq, counter_given_eq, Option.bind, gd_nb, letM_eq]
 by_cases h : IsN c.Init ∧ IsN c.Low ∧ IsN c.High ∧ c.Low ≤ c.Init ∧ c.Init ≤ c.High
 ·obtain ⟨h1, h2, h3, h4, h5⟩ := h
  have w1 : wr .i64 (c.Init - c.Low) = c.Init - c.Low := wr_id (by unfold IsN at *; omega)
  have w2 : wr .i64 (c.High - c.Init) = c.High - c.Init := wr_id (by unfold IsN at *; omega)
  rw [if_neg (by simp [h1, h2, h3]; omega), w1, w2]
  refine sd ?_
  simp only [Bool.and_eq_true, decide_eq_true_eq, Bool.if_false_right]
  unfold COk
  constructor
  ·rintro ⟨⟨⟨a, b⟩, _, d⟩, e⟩
   simp_all
  ·rintro ⟨_, _, _, _, _, a, b, d, e⟩
   simp_all
 ·have hn : ¬ COk c := fun k => h ⟨k.1, k.2.1, k.2.2.1, k.2.2.2.1, k.2.2.2.2.1⟩
  rw [if_pos, decide_eq_false hn]
  by_cases h1 : IsN c.Init <;> by_cases h2 : IsN c.Low <;> by_cases h3 : IsN c.High <;> by_cases h4 : c.Init < c.Low <;> by_cases h5 : c.High < c.Init <;> simp [h1, h2, h3, h4, h5]
  exact h ⟨h1, h2, h3, by omega, by omega⟩
theorem lock_Right_eq (l : TLock) : lock_Right l = some (decide (LOk l)) := by
 have h1 : ∀ n, lock_Right_1 n = some (decide (cnt n)) := fun n => by
  unfold lock_Right_1
  simp only [num_Is_eq, Option.bind, gd_nb, letM_eq]
  refine sd ?_
  simp only [Bool.and_eq_true, decide_eq_true_eq, Bool.if_false_right]
  unfold cnt
  constructor
  ·rintro ⟨a, _, b⟩; exact ⟨a, b⟩
  ·rintro ⟨a, b⟩; exact ⟨a, a, b⟩
 have h2 : ∀ k, lock_is k = some (decide (0 ≤ k ∧ k < 16)) := fun k => sd (by simp)
 unfold lock_Right
 simp only [h1, h2, num_Is_eq, Option.bind, gd_nb, letM_eq]
 refine sd ?_
 simp only [Bool.and_eq_true, decide_eq_true_eq, Bool.if_false_right]
 unfold LOk
 constructor
 ·rintro ⟨⟨⟨a, _, b⟩, _, d⟩, e⟩
  have e2 := e.2
  exact ⟨a, b, d.1, by omega, e2⟩
 ·rintro ⟨a, b, d, e, f⟩
  have e2 : l.Holder < 16 := by omega
  simp [a, b, d, e2, f]
theorem field_Right_eq (f : TField) (hs : f.Name.size ≤ 1000000000000000) (hh : f.Holds.length ≤ 1000000000000) : field_Right f = some (decide (FOk f)) := by
 unfold field_Right
 simp only [field_Name_eq _ hs, num_Is_eq, Option.bind, gd_nb, letM_eq, counter_Right_eq, hold_Rights_eq f.Holds (by omega), lock_Right_eq]
 by_cases h : NameOk f.Name ∧ cnt f.Epoch
 ·obtain ⟨h1, h2⟩ := h
  have h3 : ¬ f.Epoch < 0 := by unfold cnt at h2; omega
  rw [if_neg (by simp [h1, h2.2, h3])]
  by_cases hk : f.Kind = 1
  ·rw [if_pos (by simp [hk])]
   refine sd ?_
   simp only [Bool.and_eq_true, decide_eq_true_eq, Bool.if_false_right]
   unfold FOk
   constructor
   ·rintro ⟨⟨a, b, c⟩, d⟩
    exact ⟨h1, h2, .inl ⟨hk, a, c, d⟩⟩
   ·rintro ⟨_, _, ⟨_, a, b, c⟩ | ⟨a, _⟩⟩
    ·exact ⟨⟨a, a, b⟩, c⟩
    ·omega
  ·rw [if_neg (by simp [hk])]
   have hz : ((f.Holds.length : Int) = 0) ↔ f.Holds = [] := by
    rw [← List.length_eq_zero_iff]; omega
   by_cases hk2 : f.Kind = 2
   ·rw [if_pos (by simp [hk2])]
    refine sd ?_
    simp only [Bool.and_eq_true, decide_eq_true_eq, Bool.if_false_right]
    unfold FOk
    rw [hz]
    constructor
    ·rintro ⟨⟨a, b⟩, d⟩
     exact ⟨h1, h2, .inr ⟨hk2, a, b, d⟩⟩
    ·rintro ⟨_, _, ⟨a, _⟩ | ⟨a, b, c, d⟩⟩
     ·omega
     ·exact ⟨⟨b, c⟩, d⟩
   ·rw [if_neg (by simp [hk2]), decide_eq_false]
    rintro ⟨_, _, ⟨a, _⟩ | ⟨a, _⟩⟩ <;> contradiction
 ·have hn : ¬ FOk f := fun k => h ⟨k.1, k.2.1⟩
  rw [if_pos, decide_eq_false hn]
  by_cases h1 : NameOk f.Name <;> by_cases h2 : f.Epoch < 0 <;> by_cases h3 : IsN f.Epoch <;> simp [h1, h2, h3]
  exact h ⟨h1, by unfold cnt; exact ⟨by omega, h3⟩⟩

def viewS (f : TField) : Int × Int := if f.Kind = 1 then sumS (valL f.Counter) else if f.Kind = 2 then (f.Lock.Value, 0) else (0, 17)
def looseS (f : TField) (k : Int) : Int × Int := if f.Kind = 1 then (wr .i64 ((freeS f.Counter.Down k).1 - SumS f.Holds k), (freeS f.Counter.Up k).1) else (0, 0)
theorem Few7_eq (ls : List TField) (hl : ls.length ≤ 1000000000000000) : ul07_Few ls = some (decide (∀ f ∈ ls, f.Name.size ≤ 100 ∧ f.Holds.length ≤ 40)) := by
 unfold ul07_Few
 rw [loop_all ls.length hl (fun i => (ls.getD i default).Name.size ≤ 100 ∧ (ls.getD i default).Holds.length ≤ 40) false () (fun i hi => ?_) (by simp [-List.getD_eq_getElem?_getD, ul07_Few_L1])]
 ·by_cases h : ∀ f ∈ ls, f.Name.size ≤ 100 ∧ f.Holds.length ≤ 40
  ·rw [if_pos (fun i hi => h _ (by simp [List.getD, hi]))]
   rw [decide_eq_true h]; rfl
  ·rw [if_neg (fun h2 => h fun f hx => by obtain ⟨i, hi, rfl⟩ := List.getElem_of_mem hx; simpa [List.getD, hi] using h2 i hi)]
   rw [decide_eq_false h]; rfl
 ·simp only [ul07_Few_L1, six_of hi, letM_eq, Option.bind]
  rw [if_pos (by simp; omega)]
  simp only [wr_succ (show i < 1000000000000000 by omega)]
  by_cases h : (ls.getD i default).Name.size ≤ 100 ∧ (ls.getD i default).Holds.length ≤ 40
  ·rw [if_neg (by simp only [Bool.or_eq_true, decide_eq_true_eq]; omega), if_pos h]
  ·rw [if_pos (by simp only [Bool.or_eq_true, decide_eq_true_eq]; omega), if_neg h]
theorem Few71 (f : TField) : ul07_Few [f] = some (decide (f.Name.size ≤ 100 ∧ f.Holds.length ≤ 40)) := by rw [Few7_eq _ (by simp)]; simp
def withS (f : TField) (c : TCounter × Int) : TField × Int := if c.2 = 0 then ({ f with Counter := c.1 }, 0) else (default, c.2)
def endFd (f : TField) (k n st : Int) : TField × Int :=
 if f.Kind = 1 then (if (EndS f.Holds k n st).2.2 = 0 then (if st = 2 then withS { f with Holds := (EndS f.Holds k n st).1 } (decS f.Counter k (EndS f.Holds k n st).2.1) else ({ f with Holds := (EndS f.Holds k n st).1 }, 0)) else (default, (EndS f.Holds k n st).2.2)) else (default, 17)
def LLt (a b : TLock) : Prop := a.Seq < b.Seq ∨ (a.Seq = b.Seq ∧ (a.Ver < b.Ver ∨ (a.Ver = b.Ver ∧ (a.Holder < b.Holder ∨ (a.Holder = b.Holder ∧ a.Value < b.Value)))))
instance (a b : TLock) : Decidable (LLt a b) := by unfold LLt; infer_instance
theorem awake10_eq : ul10_awake = some true := by decide +kernel
theorem wire_is_eq (v : Int) : wire_is v = some (decide (1 ≤ v ∧ v ≤ 3)) := sd (by simp)
def SaysP (v : Int) (f : TField) : Prop := FOk f ∧ (1 ≤ v ∧ v ≤ 3) ∧ (v = 3 ∨ f.Epoch = 0) ∧ (1 < v ∨ f.Holds = [])
instance (v : Int) (f : TField) : Decidable (SaysP v f) := by unfold SaysP; infer_instance
theorem len0 (l : List THold) : ((l.length : Int) = 0) ↔ l = [] := by rw [← List.length_eq_zero_iff]; omega
theorem wire_Says_eq (v : Int) (f : TField) (hs : f.Name.size ≤ 1000000000000000) (hh : f.Holds.length ≤ 1000000000) : wire_Says v f = some (decide (SaysP v f)) := by
 unfold wire_Says wire_says wire_says_1 wire_says_2 wire_says_3
 rw [field_Right_eq _ hs (by omega), wire_is_eq]
 simp only [Option.bind, letM_eq, gd_nb]
 by_cases h : FOk f ∧ (1 ≤ v ∧ v ≤ 3)
 ·obtain ⟨h1, h2⟩ := h
  rw [if_pos (by rw [decide_eq_true h1, decide_eq_true h2]; rfl)]
  have hi : i64M v = some () := by unfold i64M inI64; rw [if_pos (by simp; omega)]
  rw [hi]
  simp only []
  by_cases c1 : v = 1
  ·rw [if_pos (by simp [c1])]
   refine sd ?_
   simp only [Bool.and_eq_true, decide_eq_true_eq, len0, SaysP]
   constructor
   ·rintro ⟨a, b⟩; exact ⟨h1, h2, .inr a, .inr b⟩
   ·rintro ⟨_, _, a, b⟩; exact ⟨a.resolve_left (by omega), b.resolve_left (by omega)⟩
  ·rw [if_neg (by simp [c1])]
   by_cases c2 : v = 2
   ·rw [if_pos (by simp [c2])]
    refine sd ?_
    simp only [decide_eq_true_eq, SaysP]
    exact ⟨fun a => ⟨h1, h2, .inr a, .inl (by omega)⟩, fun a => a.2.2.1.resolve_left (by omega)⟩
   ·have c3 : v = 3 := by omega
    rw [if_neg (by simp [c2]), if_pos (by simp [c3])]
    refine sd ?_
    simp only [SaysP]
    exact ⟨fun _ => ⟨h1, h2, .inl c3, .inl (by omega)⟩, fun _ => trivial⟩
 ·rw [if_neg, decide_eq_false (fun k : SaysP v f => h ⟨k.1, k.2.1⟩)]
  by_cases h1 : FOk f
  ·have h2 : ¬ (1 ≤ v ∧ v ≤ 3) := fun k => h ⟨h1, k⟩
   rw [decide_eq_false h2]; simp
  ·rw [decide_eq_false h1]; simp
theorem bvOf {n : Nat} (h : n < 2 ^ 63) : (BitVec.ofInt 64 (n : Int)).toNat = n := by
 rw [BitVec.toNat_ofInt]; omega
theorem iAnd127 {u : Nat} (h : u < 2 ^ 63) : iAnd .i64 (u : Int) 127 = ((u % 128 : Nat) : Int) := by
 have e : (BitVec.ofInt 64 (u : Int) &&& BitVec.ofInt 64 127).toNat = u % 128 := by
  rw [BitVec.toNat_and, bvOf h, show (127 : Int) = ((127 : Nat) : Int) from rfl, bvOf (by decide)]
  exact Nat.and_two_pow_sub_one_eq_mod u 7
 show IntKind.wrap .i64 (BitVec.ofInt 64 (u : Int) &&& BitVec.ofInt 64 127).toNat = _
 rw [e]
 exact wr_id (by omega)
theorem iAnd1 {u : Nat} (h : u < 2 ^ 63) : iAnd .i64 (u : Int) 1 = ((u % 2 : Nat) : Int) := by
 have e : (BitVec.ofInt 64 (u : Int) &&& BitVec.ofInt 64 1).toNat = u % 2 := by
  rw [BitVec.toNat_and, bvOf h, show (1 : Int) = ((1 : Nat) : Int) from rfl, bvOf (by decide)]
  exact Nat.and_two_pow_sub_one_eq_mod u 1
 show IntKind.wrap .i64 (BitVec.ofInt 64 (u : Int) &&& BitVec.ofInt 64 1).toNat = _
 rw [e]
 exact wr_id (by omega)
theorem iOrAdd {a x : Nat} (ha : a * 128 + x < 2 ^ 63) (hx : x < 128) : iOr .i64 ((a * 128 : Nat) : Int) (x : Int) = ((a * 128 + x : Nat) : Int) := by
 have e : (BitVec.ofInt 64 ((a * 128 : Nat) : Int) ||| BitVec.ofInt 64 (x : Int)).toNat = a * 128 + x := by
  rw [BitVec.toNat_or, bvOf (by omega), bvOf (by omega)]
  rw [Nat.mul_comm a 128]
  exact (Nat.two_pow_add_eq_or_of_lt (i := 7) hx a).symm
 show IntKind.wrap .i64 (BitVec.ofInt 64 ((a * 128 : Nat) : Int) ||| BitVec.ofInt 64 (x : Int)).toNat = _
 rw [e]
 exact wr_id (by omega)
theorem iOr128 {x : Nat} (hx : x < 128) : iOr .i64 (x : Int) 128 = ((x + 128 : Nat) : Int) := by
 have e : (BitVec.ofInt 64 (x : Int) ||| BitVec.ofInt 64 128).toNat = x + 128 := by
  rw [BitVec.toNat_or, bvOf (by omega), show (128 : Int) = ((128 : Nat) : Int) from rfl, bvOf (by decide)]
  rw [Nat.or_comm, Nat.add_comm]
  exact (Nat.two_pow_add_eq_or_of_lt (i := 7) hx 1).symm
 show IntKind.wrap .i64 (BitVec.ofInt 64 (x : Int) ||| BitVec.ofInt 64 128).toNat = _
 rw [e]
 exact wr_id (by omega)
theorem iShr7 {u : Nat} : iShr .i64 (u : Int) 7 = ((u / 128 : Nat) : Int) := by
 show (u : Int).fdiv (2 ^ (min (7 : Int).toNat 64)) = _
 rw [show min (7 : Int).toNat 64 = 7 from rfl, Int.fdiv_eq_ediv_of_nonneg _ (by decide)]
 omega
theorem iShr1 {u : Nat} : iShr .i64 (u : Int) 1 = ((u / 2 : Nat) : Int) := by
 show (u : Int).fdiv (2 ^ (min (1 : Int).toNat 64)) = _
 rw [show min (1 : Int).toNat 64 = 1 from rfl, Int.fdiv_eq_ediv_of_nonneg _ (by decide)]
 omega
theorem iShl7 {u : Nat} (h : u < 2 ^ 50) : iShl .i64 (u : Int) 7 = ((u * 128 : Nat) : Int) := by
 show IntKind.wrap .i64 ((u : Int) * 2 ^ (min (7 : Int).toNat 64)) = _
 rw [show min (7 : Int).toNat 64 = 7 from rfl]
 have : (u : Int) * 2 ^ 7 = ((u * 128 : Nat) : Int) := by omega
 rw [this]
 exact wr_id (by omega)
theorem wr_u8 {n : Nat} (h : n < 256) : wr .u8 (n : Int) = (n : Int) := by
 show IntKind.wrap .u8 (n : Int) = _
 simp [IntKind.wrap, IntKind.signed, IntKind.bits]
 omega

/-- Bytes of a number from 0 on, the lowest ones first. -/
def encF : Nat → Nat → List Int
 | 0, u => [(u : Int)]
 | k + 1, u => if 127 < u then ((u % 128 + 128 : Nat) : Int) :: encF k (u / 128) else [(u : Int)]
def zig (n : Int) : Nat := if n < 0 then (-2 * n - 1).toNat else (2 * n).toNat
def encN (n : Int) : List Int := encF 5 (zig n)
theorem zig_lt {n : Int} (h : IsN n) : zig n < 128 ^ 6 := by
 unfold IsN at h; unfold zig
 split <;> omega
theorem encF_len : ∀ k u, (encF k u).length ≤ k + 1
 | 0, u => by simp [encF]
 | k + 1, u => by
  unfold encF
  split
  ·have := encF_len k (u / 128); simp; omega
  ·simp
theorem putLoop {f : List Int × Int → Option ((List Int × Int) ⊕ (List Int × Int))}
  (hf : ∀ s, f s = if (decide (127 < s.2)) = true then Option.bind (app 1 s.1 [(wr .u8 (iOr .i64 (iAnd .i64 s.2 127) 128))]) fun l => some (.inl (l, (iShr .i64 s.2 7))) else some (.inr (s.1, s.2))) :
  ∀ (k n u : Nat) (l : List Int), k < n → u < 128 ^ (k + 1) → u < 2 ^ 63 → l.length + k ≤ 1000000000 →
   ∃ x : List Int × Int, loopM f n (l, (u : Int)) = some x ∧ x.1 ++ [wr .u8 x.2] = l ++ encF k u ∧ x.1.length ≤ l.length + k
 | k, 0, u, l, hk, _, _, _ => by omega
 | 0, n + 1, u, l, _, hu, _, _ => by
  refine ⟨(l, u), by simp [loopM, hf, show ¬ (127 : Int) < (u : Int) from by omega], ?_, by simp⟩
  simp only [encF]
  rw [wr_u8 (by omega)]
 | k + 1, n + 1, u, l, hk, hu, h63, hl => by
  by_cases c : 127 < u
  ·have hd : u / 128 < 128 ^ (k + 1) := by rw [Nat.div_lt_iff_lt_mul (by decide)]; rw [Nat.pow_succ] at hu; exact hu
   obtain ⟨x, h1, h2, h3⟩ := putLoop hf k n (u / 128) (l ++ [((u % 128 + 128 : Nat) : Int)]) (by omega) hd (by omega) (by simp; omega)
   refine ⟨x, ?_, ?_, by simp at h3; omega⟩
   ·rw [loopM, hf]
    simp only [decide_eq_true (show (127 : Int) < (u : Int) from by omega), if_true, iAnd127 h63, iOr128 (Nat.mod_lt u (by decide : 0 < 128)), wr_u8 (show u % 128 + 128 < 256 from by omega), iShr7]
    rw [app_of (by simp; omega)]
    exact h1
   ·rw [h2, encF, if_pos c]; simp
  ·refine ⟨(l, u), by simp [loopM, hf, show ¬ (127 : Int) < (u : Int) from by omega], ?_, by simp⟩
   rw [encF, if_neg c, wr_u8 (by omega)]
theorem encN_len (n : Int) : (encN n).length ≤ 6 := encF_len 5 _
theorem octets_Number_eq {a : List Int} {n : Int} (hn : IsN n) (ha : a.length ≤ 100000000) : octets_Number a n = some (a ++ encN n) := by
 unfold octets_Number
 rw [num_Is_eq]
 simp only [Option.bind_some, decide_eq_true hn, Bool.not_true, Bool.false_eq_true, if_false, letM_eq]
 have hz := zig_lt hn
 have hf := fuel_big
 by_cases c : n < 0
 ·have e : wr .i64 (wr .i64 ((-2) * n) - 1) = ((zig n : Nat) : Int) := by
   unfold IsN at hn
   rw [wr_id (n := (-2) * n) (by omega), wr_id (by omega), zig, if_pos c]; omega
  simp only [decide_eq_true c, if_true, e]
  rw [app_of (by simp; omega)]
  simp only [Option.bind_some, List.nil_append]
  obtain ⟨x, h1, h2, h3⟩ := putLoop (f := octets_Number_L3) (fun s => rfl) 5 fuel (zig n) a (by omega) hz (by omega) (by omega)
  rw [h1]
  simp only [Option.bind_some]
  rw [app_of (by simp; omega), h2]
  rfl
 ·have e : wr .i64 (2 * n) = ((zig n : Nat) : Int) := by
   unfold IsN at hn
   rw [wr_id (by omega), zig, if_neg c]; omega
  simp only [decide_eq_false c, Bool.false_eq_true, if_false, e]
  rw [app_of (by simp; omega)]
  simp only [Option.bind_some, List.nil_append]
  obtain ⟨x, h1, h2, h3⟩ := putLoop (f := octets_Number_L4) (fun s => rfl) 5 fuel (zig n) a (by omega) hz (by omega) (by omega)
  rw [h1]
  simp only [Option.bind_some]
  rw [app_of (by simp; omega), h2]
  rfl
theorem octets_Number_own_eq {a : List Int} {n : Int} (hn : IsN n) (ha : a.length ≤ 100000000) : octets_Number_own a n = some (a ++ encN n) := by
 unfold octets_Number_own
 rw [num_Is_eq]
 simp only [Option.bind_some, decide_eq_true hn, Bool.not_true, Bool.false_eq_true, if_false, letM_eq]
 have hz := zig_lt hn
 have hf := fuel_big
 by_cases c : n < 0
 ·have e : wr .i64 (wr .i64 ((-2) * n) - 1) = ((zig n : Nat) : Int) := by
   unfold IsN at hn
   rw [wr_id (n := (-2) * n) (by omega), wr_id (by omega), zig, if_pos c]; omega
  simp only [decide_eq_true c, if_true, e]
  rw [app_of (by simp; omega)]
  simp only [Option.bind_some, List.nil_append]
  obtain ⟨x, h1, h2, h3⟩ := putLoop (f := octets_Number_own_L3) (fun s => rfl) 5 fuel (zig n) a (by omega) hz (by omega) (by omega)
  rw [h1]
  simp only [Option.bind_some]
  rw [app_of (by simp; omega), h2]
  rfl
 ·have e : wr .i64 (2 * n) = ((zig n : Nat) : Int) := by
   unfold IsN at hn
   rw [wr_id (by omega), zig, if_neg c]; omega
  simp only [decide_eq_false c, Bool.false_eq_true, if_false, e]
  rw [app_of (by simp; omega)]
  simp only [Option.bind_some, List.nil_append]
  obtain ⟨x, h1, h2, h3⟩ := putLoop (f := octets_Number_own_L4) (fun s => rfl) 5 fuel (zig n) a (by omega) hz (by omega) (by omega)
  rw [h1]
  simp only [Option.bind_some]
  rw [app_of (by simp; omega), h2]
  rfl
theorem flat_len : ∀ l : List Int, (l.flatMap encN).length ≤ 6 * l.length
 | [] => by simp
 | n :: l => by have := flat_len l; have := encN_len n; simp only [List.flatMap_cons, List.length_append, List.length_cons]; omega
theorem wire_numbers_eq {a l : List Int} (hl : ∀ n ∈ l, IsN n) (ha : a.length + 6 * l.length ≤ 100000000) : wire_numbers a l = some (a ++ l.flatMap encN) := by
 unfold wire_numbers
 have h := loopM_eq (body := wire_numbers_L1 l) (fun i s => s = ((i : Int), a ++ (l.take i).flatMap encN)) l.length (by omega) (a ++ l.flatMap encN) ?_ ?_ (s0 := (0, a)) (by simp)
 ·rw [h]; rfl
 ·rintro i s hi rfl
  refine .inl ⟨_, ?_, rfl⟩
  have hm : l.getD i default ∈ l := by rw [List.getD_eq_getElem?_getD, List.getElem?_eq_getElem hi]; exact List.getElem_mem hi
  have hlen : (a ++ (l.take i).flatMap encN).length ≤ 100000000 := by
   have := flat_len (l.take i); simp only [List.length_append, List.length_take] at this ⊢; omega
  simp only [wire_numbers_L1, decide_eq_true (show ((i : Nat) : Int) < (l.length : Int) from by omega), if_true]
  rw [six_of hi]
  simp only [Option.bind_some]
  rw [octets_Number_eq (hl _ hm) hlen]
  simp only [Option.bind_some]
  rw [wr_succ (by omega), List.append_assoc, List.take_add_one, List.flatMap_append]
  rw [List.getD_eq_getElem?_getD, List.getElem?_eq_getElem hi]
  simp
 ·rintro s rfl
  simp [wire_numbers_L1]
theorem bytesOf_length (s : ByteArray) : (bytesOf s).length = s.size := by rw [bytesOf, List.length_map]; rfl
theorem octets_Text_eq {a : List Int} {s : ByteArray} (hs : s.size ≤ 100000) (ha : a.length ≤ 10000000) : octets_Text a s = some (a ++ encN (s.size : Int) ++ bytesOf s) := by
 unfold octets_Text
 rw [octets_Number_own_eq (by unfold IsN; omega) (by omega)]
 simp only [Option.bind_some]
 have := encN_len (s.size : Int)
 rw [app_of (by rw [bytesOf_length, List.length_append]; omega)]
 rfl
/-- The number of seven bits of each byte. -/
def dec7 (l : List Int) : Nat := l.foldr (fun c a => a * 128 + c.toNat % 128) 0
structure Enc (l : List Int) (u : Nat) : Prop where
 ex : ∃ hs last, l = hs ++ [last] ∧ (∀ c ∈ hs, 128 ≤ c ∧ c < 256) ∧ 0 ≤ last ∧ last < 128 ∧ (hs ≠ [] → last ≠ 0)
 val : dec7 l = u
theorem enc_enc : ∀ k u, u < 128 ^ (k + 1) → Enc (encF k u) u
 | 0, u, h => ⟨⟨[], u, rfl, by simp, by omega, by omega, fun h => absurd rfl h⟩, by simp [encF, dec7]; omega⟩
 | k + 1, u, h => by
  unfold encF
  split
  ·have hd : u / 128 < 128 ^ (k + 1) := by rw [Nat.div_lt_iff_lt_mul (by decide)]; rw [Nat.pow_succ] at h; exact h
   obtain ⟨⟨hs, last, e, h1, h2, h3, h4⟩, hv⟩ := enc_enc k (u / 128) hd
   refine ⟨⟨((u % 128 + 128 : Nat) : Int) :: hs, last, by rw [e]; rfl, ?_, h2, h3, fun _ => ?_⟩, ?_⟩
   ·intro c hc
    rcases List.mem_cons.1 hc with rfl | hc
    ·omega
    ·exact h1 c hc
   ·cases hs with
    | cons a b => exact h4 (by simp)
    | nil =>
     rintro rfl
     rw [e] at hv
     simp [dec7] at hv
     omega
   ·show dec7 (encF k (u / 128)) * 128 + _ = u
    rw [hv]; simp only [Int.toNat_natCast]; omega
  ·exact ⟨⟨[], u, rfl, by simp, by omega, by omega, fun h => absurd rfl h⟩, by simp [dec7]; omega⟩

theorem idx_at {b : List Int} {i : Nat} (hb : b.length ≤ 1000000000) (hi : i < b.length) (h0 : ∀ j, j < i → ¬ b.getD j default < 128) (h1 : b.getD i default < 128) : slices_IndexFunc_byte_Reader_Number_1 b = some (i : Int) := by
 unfold slices_IndexFunc_byte_Reader_Number_1
 have h := loopM_eq (body := slices_IndexFunc_byte_Reader_Number_1_L1 b) (fun k s => s = (k : Int)) i (by omega) (.inr (i : Int)) ?_ ?_ (s0 := 0) rfl
 ·rw [h]; rfl
 ·rintro k s hk rfl
  refine .inl ⟨_, ?_, rfl⟩
  simp only [slices_IndexFunc_byte_Reader_Number_1_L1, octets_Reader_Number_1, decide_eq_true (show ((k : Nat) : Int) < (b.length : Int) from by omega), if_true]
  rw [six_of (by omega)]
  simp only [Option.bind_some, decide_eq_false (h0 k hk), Bool.false_eq_true, if_false]
  rw [wr_succ (by omega)]
 ·rintro s rfl
  simp only [slices_IndexFunc_byte_Reader_Number_1_L1, octets_Reader_Number_1, decide_eq_true (show ((i : Nat) : Int) < (b.length : Int) from by omega), if_true]
  rw [six_of hi]
  simp only [Option.bind_some, decide_eq_true h1, if_true]
theorem idx_no {b : List Int} (hb : b.length ≤ 1000000000) (h0 : ∀ j, j < b.length → ¬ b.getD j default < 128) : slices_IndexFunc_byte_Reader_Number_1 b = some (-1) := by
 unfold slices_IndexFunc_byte_Reader_Number_1
 have h := loopM_eq (body := slices_IndexFunc_byte_Reader_Number_1_L1 b) (fun k s => s = (k : Int)) b.length (by omega) (.inl ()) ?_ ?_ (s0 := 0) rfl
 ·rw [h]; rfl
 ·rintro k s hk rfl
  refine .inl ⟨_, ?_, rfl⟩
  simp only [slices_IndexFunc_byte_Reader_Number_1_L1, octets_Reader_Number_1, decide_eq_true (show ((k : Nat) : Int) < (b.length : Int) from by omega), if_true]
  rw [six_of (by omega)]
  simp only [Option.bind_some, decide_eq_false (h0 k hk), Bool.false_eq_true, if_false]
  rw [wr_succ (by omega)]
 ·rintro s rfl
  simp [slices_IndexFunc_byte_Reader_Number_1_L1]
theorem iAnd8 {c : Int} (h0 : 0 ≤ c) (h : c < 256) : wr .i64 (iAnd .u8 c 127) = ((c.toNat % 128 : Nat) : Int) := by
 obtain ⟨n, rfl⟩ : ∃ n : Nat, c = n := ⟨c.toNat, by omega⟩
 have e : (BitVec.ofInt 8 (n : Int) &&& BitVec.ofInt 8 127).toNat = n % 128 := by
  rw [BitVec.toNat_and, BitVec.toNat_ofInt, BitVec.toNat_ofInt]
  have e1 : ((n : Int) % (2 ^ 8 : Nat)).toNat = n := by omega
  rw [e1]
  exact Nat.and_two_pow_sub_one_eq_mod n 7
 have : iAnd .u8 (n : Int) 127 = ((n % 128 : Nat) : Int) := by
  show IntKind.wrap .u8 (BitVec.ofInt 8 (n : Int) &&& BitVec.ofInt 8 127).toNat = _
  rw [e]
  exact wr_u8 (by omega)
 rw [this]
 exact wr_id (by omega)
theorem dec7_lt : ∀ l : List Int, dec7 l < 128 ^ l.length
 | [] => by simp [dec7]
 | c :: l => by
  have := dec7_lt l
  show dec7 l * 128 + c.toNat % 128 < 128 ^ (l.length + 1)
  rw [Nat.pow_succ]; omega
theorem readLoop {r : Int × YosR} {last : Nat} (hl : last < r.2.b.length) (h6 : last < 6) (hb : ∀ j, j ≤ last → 0 ≤ r.2.b.getD j default ∧ r.2.b.getD j default < 256) :
  loopM (octets_Reader_Number_L1 r) fuel ((last : Int), 0) = some ((dec7 (r.2.b.take (last + 1)) : Nat) : Int) := by
 have h := loopM_eq (body := octets_Reader_Number_L1 r) (fun i s => s = ((last : Int) - (i : Int), ((dec7 ((r.2.b.take (last + 1)).drop (last + 1 - i)) : Nat) : Int))) (last + 1) (by omega) ((dec7 (r.2.b.take (last + 1)) : Nat) : Int) ?_ ?_ (s0 := ((last : Int), 0)) ?_
 ·exact h
 ·rintro i s hi rfl
  refine .inl ⟨_, ?_, rfl⟩
  have hj : (last : Int) - (i : Int) = ((last - i : Nat) : Int) := by omega
  simp only [octets_Reader_Number_L1]
  rw [hj]
  simp only [decide_eq_true (show (0 : Int) ≤ ((last - i : Nat) : Int) from by omega), if_true]
  rw [six_of (by omega)]
  have hd : (r.2.b.take (last + 1)).drop (last + 1 - (i + 1)) = r.2.b.getD (last - i) default :: (r.2.b.take (last + 1)).drop (last + 1 - i) := by
   rw [show last + 1 - (i + 1) = last - i from by omega, List.drop_eq_getElem_cons (by rw [List.length_take]; omega), show last - i + 1 = last + 1 - i from by omega]
   congr 1
   rw [List.getElem_take, List.getD_eq_getElem?_getD, List.getElem?_eq_getElem (by omega)]; rfl
  have hlen : ((r.2.b.take (last + 1)).drop (last + 1 - i)).length = i := by rw [List.length_drop, List.length_take]; omega
  have hlt := dec7_lt ((r.2.b.take (last + 1)).drop (last + 1 - i))
  rw [hlen] at hlt
  have h5 : 128 ^ i ≤ 128 ^ 5 := Nat.pow_le_pow_right (by decide) (by omega)
  obtain ⟨c0, c1⟩ := hb (last - i) (by omega)
  simp only [Option.bind_some, letM_eq]
  rw [iShl7 (by omega), iAnd8 c0 c1, iOrAdd (by omega) (by omega), hd]
  rw [wr_id (by omega)]
  congr 3
  omega
 ·rintro s rfl
  simp only [octets_Reader_Number_L1]
  rw [if_neg (by simp; omega)]
  simp
 ·simp [dec7]
theorem ssl_of {α : Type} {xs : List α} {l : Nat} (h : l ≤ xs.length) : ssl xs (l : Int) (xs.length : Int) = some (xs.drop l) := by
 unfold ssl
 rw [if_pos (by omega)]
 simp
theorem ssl_pre {α : Type} {xs : List α} {l : Nat} (h : l ≤ xs.length) : ssl xs 0 (l : Int) = some (xs.take l) := by
 unfold ssl
 rw [if_pos (by omega)]
 simp
theorem Number_dead {b : YosR} (h : b.e ≠ 0) : octets_Reader_Number b = some (0, b) := by
 simp [octets_Reader_Number, octets_Reader_Err, h]
theorem getD_mid {hs : List Int} {last : Int} {rest : List Int} : ((hs ++ [last]) ++ rest).getD hs.length default = last := by
 simp [List.getD_eq_getElem?_getD]
theorem getD_low {hs t : List Int} {j : Nat} (hj : j < hs.length) : (hs ++ t).getD j default ∈ hs := by
 rw [List.getD_eq_getElem?_getD, List.getElem?_append_left hj, List.getElem?_eq_getElem hj]; exact List.getElem_mem hj
theorem Number_ok' {bb : List Int} {n : Int} {rest : List Int} (hb : bb = encN n ++ rest) (hn : IsN n) (hl : bb.length ≤ 1000000000) : octets_Reader_Number ⟨bb, 0⟩ = some (n, ⟨rest, 0⟩) := by
 have hz := zig_lt hn
 obtain ⟨⟨hs, last, e, h1, h2, h3, h4⟩, hv⟩ := enc_enc 5 (zig n) hz
 change encN n = hs ++ [last] at e
 change dec7 (encN n) = zig n at hv
 have h6 : hs.length < 6 := by have := encN_len n; rw [e] at this; simp at this; omega
 have hbe : bb = (hs ++ [last]) ++ rest := by rw [hb, e]
 have hlen : hs.length < bb.length := by rw [hbe]; simp
 have g1 : bb.getD hs.length default = last := by rw [hbe]; exact getD_mid
 have g0 : ∀ j, j < hs.length → 128 ≤ bb.getD j default ∧ bb.getD j default < 256 := fun j hj => by
  rw [hbe, List.append_assoc]; exact h1 _ (getD_low hj)
 have hidx := idx_at hl hlen (fun j hj => by have := (g0 j hj).1; omega) (by rw [g1]; exact h3)
 have htake : bb.take (hs.length + 1) = encN n := by
  rw [hbe, List.take_append_of_le_length (by simp), e, List.take_of_length_le (by simp)]
 have hdrop : bb.drop (hs.length + 1) = rest := by
  rw [hbe, List.drop_append_of_le_length (by simp), List.drop_of_length_le (by simp), List.nil_append]
 have hloop := readLoop (r := (0, ⟨bb, 0⟩)) (last := hs.length) hlen h6 (fun j hj => by
  rcases Nat.lt_or_eq_of_le hj with h | rfl
  ·have := g0 j h; exact ⟨by have := this.1; show 0 ≤ bb.getD j default; omega, this.2⟩
  ·show 0 ≤ bb.getD hs.length default ∧ bb.getD hs.length default < 256
   rw [g1]; exact ⟨h2, by omega⟩)
 simp only [htake, hv] at hloop
 have hz63 : zig n < 2 ^ 63 := by omega
 unfold octets_Reader_Number
 simp only [octets_Reader_Err, Option.bind_some, decide_true, Bool.not_true, Bool.false_eq_true, if_false]
 rw [hidx]
 simp only [Option.bind_some, letM_eq, decide_eq_false (show ¬ (6 : Int) ≤ (hs.length : Int) from by omega), decide_eq_false (show ¬ (hs.length : Int) < 0 from by omega), Bool.false_and, Bool.or_false, Bool.false_eq_true, if_false]
 rw [hloop]
 simp only [Option.bind_some, iAnd1 hz63, iShr1]
 have hgd : ∀ (p : Prop) [Decidable p], p → gd p (six bb (hs.length : Int)) = some hs.length := fun p _ hp => by rw [gd_t hp, six_of hlen]
 have hfin : ∀ v : Int, v = n → Option.bind (gd (decide (0 < (hs.length : Int)) = true) (six bb (hs.length : Int))) (fun j =>
   if (decide (0 < (hs.length : Int)) && decide (bb.getD j default = 0)) = true then Option.bind (octets_Reader_fail 4 ⟨bb, 0⟩) fun r => some (r.1, r.2)
   else Option.bind (num_Is v) fun r => if (!r) = true then Option.bind (octets_Reader_fail 2 ⟨bb, 0⟩) fun r => some (r.1, r.2)
   else Option.bind (ssl bb (wr .i64 ((hs.length : Int) + 1)) (bb.length : Int)) fun l => some (v, (⟨l, 0⟩ : YosR))) = some (n, ⟨rest, 0⟩) := by
  rintro v rfl
  have hc : ∀ j, (gd (decide (0 < (hs.length : Int)) = true) (six bb (hs.length : Int))) = some j → (decide (0 < (hs.length : Int)) && decide (bb.getD j default = 0)) = false := by
   intro j hj
   by_cases c : 0 < (hs.length : Int)
   ·rw [gd_t (by simpa using c), six_of hlen] at hj
    cases hj
    rw [g1]
    have := h4 (by rintro rfl; simp at c)
    simp [this]
   ·rw [decide_eq_false c, Bool.false_and]
  obtain ⟨j, hj⟩ : ∃ j, gd (decide (0 < (hs.length : Int)) = true) (six bb (hs.length : Int)) = some j := by
   by_cases c : 0 < (hs.length : Int)
   ·exact ⟨_, by rw [gd_t (by simpa using c), six_of hlen]⟩
   ·exact ⟨_, by rw [gd_f (by simpa using c)]⟩
  rw [hj]
  simp only [Option.bind_some, hc j hj, Bool.false_eq_true, if_false, num_Is_eq, decide_eq_true hn, Bool.not_true]
  rw [wr_succ (by omega), ssl_of (by omega), hdrop]
  rfl
 by_cases c : n < 0
 ·have hodd : ((zig n % 2 : Nat) : Int) = 1 := by unfold zig; rw [if_pos c]; omega
  rw [if_pos (decide_eq_true hodd)]
  refine hfin _ ?_
  unfold IsN at hn
  have : ((zig n / 2 : Nat) : Int) = -n - 1 := by unfold zig; rw [if_pos c]; omega
  rw [this, wr_id (n := 0 - (-n - 1)) (by omega), wr_id (by omega)]; omega
 ·have hev : ((zig n % 2 : Nat) : Int) ≠ 1 := by unfold zig; rw [if_neg c]; omega
  rw [if_neg (by rw [decide_eq_false hev]; decide)]
  refine hfin _ ?_
  unfold zig; rw [if_neg c]; omega
theorem Number_ok {b : YosR} {n : Int} {rest : List Int} (he : b.e = 0) (hb : b.b = encN n ++ rest) (hn : IsN n) (hl : b.b.length ≤ 1000000000) : octets_Reader_Number b = some (n, ⟨rest, 0⟩) := by
 obtain ⟨bb, be⟩ := b
 cases he
 exact Number_ok' hb hn hl
theorem Number_short {b : YosR} {n : Int} {q s : List Int} (he : b.e = 0) (hb : b.b ++ q = encN n ++ s) (hlt : b.b.length < (encN n).length) (hn : IsN n) : octets_Reader_Number b = some (0, ⟨b.b, 3⟩) := by
 obtain ⟨⟨hs, last, e, h1, h2, h3, h4⟩, hv⟩ := enc_enc 5 (zig n) (zig_lt hn)
 change encN n = hs ++ [last] at e
 have hle : b.b.length ≤ hs.length := by rw [e] at hlt; simp at hlt; omega
 have h6 : b.b.length ≤ 5 := by have := encN_len n; rw [e] at this; simp at this; omega
 have hp : b.b = hs.take b.b.length := by
  have := congrArg (List.take b.b.length) hb
  rw [List.take_append_of_le_length (Nat.le_refl _), List.take_of_length_le (Nat.le_refl _), e, List.append_assoc, List.take_append_of_le_length hle] at this
  exact this
 have hidx := idx_no (b := b.b) (by omega) (fun j hj => by
  have : b.b.getD j default ∈ hs := by
   rw [List.getD_eq_getElem?_getD, List.getElem?_eq_getElem hj]
   have hm : ∀ x ∈ b.b, x ∈ hs := fun x hx => by rw [hp] at hx; exact List.mem_of_mem_take hx
   exact hm _ (List.getElem_mem hj)
  have := (h1 _ this).1
  omega)
 unfold octets_Reader_Number
 simp only [octets_Reader_Err, Option.bind_some, he, decide_true, Bool.not_true, Bool.false_eq_true, if_false]
 rw [hidx]
 simp only [Option.bind_some, letM_eq, octets_Reader_fail]
 rw [if_neg (by simp; omega), if_pos (by simp)]
/-- What is still to come is s; q of it is missing at the end. -/
structure At (q s : List Int) (r : YosR) : Prop where
 e : r.e = 0
 b : r.b ++ q = s
 l : r.b.length ≤ 1000000000
def Lost (q : List Int) (r : YosR) : Prop := q ≠ [] ∧ r.e = 3
theorem Lost.ne {q : List Int} {r : YosR} (h : Lost q r) : r.e ≠ 0 := by rw [h.2]; decide

theorem Number_lost {q : List Int} {r : YosR} (h : Lost q r) : octets_Reader_Number r = some (0, r) := Number_dead h.ne
theorem Number_st {q s : List Int} {n : Int} {r : YosR} (h : At q (encN n ++ s) r) (hn : IsN n) :
  (∃ r', octets_Reader_Number r = some (n, r') ∧ At q s r') ∨ ∃ r', octets_Reader_Number r = some (0, r') ∧ Lost q r' := by
 by_cases c : (encN n).length ≤ r.b.length
 ·have e : r.b = encN n ++ r.b.drop (encN n).length := by
   have := congrArg (List.take (encN n).length) h.b
   rw [List.take_append_of_le_length c, List.take_left] at this
   conv => lhs; rw [← List.take_append_drop (encN n).length r.b, this]
  refine .inl ⟨_, Number_ok h.e e hn h.l, rfl, ?_, by have := h.l; simp; omega⟩
  have := h.b
  rw [e, List.append_assoc] at this
  exact List.append_cancel_left this
 ·refine .inr ⟨_, Number_short h.e h.b (by omega) hn, ?_, rfl⟩
  rintro rfl
  have := congrArg List.length h.b
  simp at this
  omega
theorem Count_lost {q : List Int} {r : YosR} {m : Int} (h : Lost q r) : octets_Reader_Count m r = some (0, r) := by
 unfold octets_Reader_Count
 rw [Number_lost h]
 simp [octets_Reader_Err, h.ne]
theorem Count_st {q s : List Int} {n m : Int} {r : YosR} (h : At q (encN n ++ s) r) (hn : IsN n) (h0 : 0 ≤ n) (hm : n ≤ m) :
  (∃ r', octets_Reader_Count m r = some (n, r') ∧ At q s r') ∨ ∃ r', octets_Reader_Count m r = some (0, r') ∧ Lost q r' := by
 rcases Number_st h hn with ⟨r', e, h'⟩ | ⟨r', e, h'⟩
 ·refine .inl ⟨r', ?_, h'⟩
  unfold octets_Reader_Count
  rw [e]
  simp [octets_Reader_Err, h'.e, show ¬ n < 0 from by omega, show ¬ m < n from by omega]
 ·refine .inr ⟨r', ?_, h'⟩
  unfold octets_Reader_Count
  rw [e]
  simp [octets_Reader_Err, h'.ne]
theorem strOf_bytesOf (s : ByteArray) : strOfNums (bytesOf s) = s := by
 unfold strOfNums bytesOf
 rw [List.map_map]
 have : ((fun n : Int => UInt8.ofNat n.toNat) ∘ fun b : UInt8 => (b.toNat : Int)) = id := by funext b; simp
 rw [this, List.map_id]
theorem Text_lost {q : List Int} {r : YosR} {m : Int} (h : Lost q r) : ∃ x, octets_Reader_Text m r = some (x, r) := by
 unfold octets_Reader_Text
 rw [Count_lost h]
 exact ⟨_, by simp [octets_Reader_Err, h.ne]; rfl⟩
theorem Text_st {q s : List Int} {m : Int} {x : ByteArray} {r : YosR} (h : At q (encN (x.size : Int) ++ (bytesOf x ++ s)) r) (hx : (x.size : Int) ≤ m) (hm : m ≤ 1000000) :
  (∃ r', octets_Reader_Text m r = some (x, r') ∧ At q s r') ∨ ∃ y r', octets_Reader_Text m r = some (y, r') ∧ Lost q r' := by
 rcases Count_st h (by unfold IsN; omega) (by omega) hx with ⟨r', e, h'⟩ | ⟨r', e, h'⟩
 ·unfold octets_Reader_Text
  rw [e]
  simp only [Option.bind_some, octets_Reader_Err, h'.e, decide_true, Bool.not_true, Bool.false_eq_true, if_false]
  by_cases c : (r'.b.length : Int) < (x.size : Int)
  ·refine .inr ⟨_, _, by rw [if_pos (decide_eq_true c)]; rfl, ?_, rfl⟩
   rintro rfl
   have := congrArg List.length h'.b
   rw [List.length_append, List.length_append, bytesOf_length] at this
   simp at this
   omega
  ·rw [if_neg (by rw [decide_eq_false c]; decide)]
   have hl : x.size ≤ r'.b.length := by omega
   have ht : r'.b.take x.size = bytesOf x := by
    have := congrArg (List.take x.size) h'.b
    rw [List.take_append_of_le_length hl, List.take_append_of_le_length (by rw [bytesOf_length]; exact Nat.le_refl _), List.take_of_length_le (l := bytesOf x) (by rw [bytesOf_length]; exact Nat.le_refl _)] at this
    exact this
   rw [ssl_pre hl, ssl_of hl]
   refine .inl ⟨⟨r'.b.drop x.size, 0⟩, ?_, rfl, ?_, by have := h'.l; simp; omega⟩
   ·simp only [Option.bind_some, letM_eq, ht, strOf_bytesOf, h'.e]
   ·have := h'.b
    rw [← List.take_append_drop x.size r'.b, ht, List.append_assoc] at this
    exact List.append_cancel_left this
 ·unfold octets_Reader_Text
  rw [e]
  refine .inr ⟨_, r', by simp only [Option.bind_some, octets_Reader_Err]; rw [if_pos (by simp [h'.ne])], h'⟩
theorem End_lost {q : List Int} {r : YosR} (h : Lost q r) : octets_Reader_End r = some (3, r) := by
 unfold octets_Reader_End
 simp [octets_Reader_Err, h.2]
theorem End_at {q s : List Int} {r : YosR} (h : At q s r) (hq : q = []) : octets_Reader_End r = some (if s = [] then 0 else 5, r) := by
 subst hq
 have hs : r.b = s := by have := h.b; simpa using this
 unfold octets_Reader_End
 simp only [octets_Reader_Err, Option.bind_some, h.e, decide_true, Bool.not_true, Bool.false_eq_true, if_false, hs]
 by_cases c : s = []
 ·subst c; simp
 ·have : 0 < s.length := List.length_pos_iff.2 c
  rw [if_pos (decide_eq_true (by omega)), if_neg c]
theorem Number_any {q s : List Int} {n : Int} {r : YosR} (h : At q (encN n ++ s) r ∨ Lost q r) (hn : IsN n) : ∃ v r', octets_Reader_Number r = some (v, r') ∧ ((v = n ∧ At q s r') ∨ (v = 0 ∧ Lost q r')) := by
 rcases h with h | h
 ·rcases Number_st h hn with ⟨r', e, h'⟩ | ⟨r', e, h'⟩
  ·exact ⟨_, _, e, .inl ⟨rfl, h'⟩⟩
  ·exact ⟨_, _, e, .inr ⟨rfl, h'⟩⟩
 ·exact ⟨_, _, Number_lost h, .inr ⟨rfl, h⟩⟩
theorem or2 {p q s t : Prop} (h : (p ∧ q) ∨ (s ∧ t)) : q ∨ t := h.imp And.right And.right
theorem read_kind {q s : List Int} {n : Int} {r : YosR} {f : TField} (h : At q (encN n ++ s) r ∨ Lost q r) (hn : IsN n) :
  ∃ v r', wire_read r f = some (r', { f with Kind := v, Holds := [] }) ∧ ((v = n ∧ At q s r') ∨ (v = 0 ∧ Lost q r')) := by
 obtain ⟨v, r', e, h'⟩ := Number_any h hn
 exact ⟨v, r', by rw [wire_read, e]; rfl, h'⟩
theorem read_epoch {q s : List Int} {n : Int} {r : YosR} {f : TField} (h : At q (encN n ++ s) r ∨ Lost q r) (hn : IsN n) :
  ∃ v r', wire_read_2 r f = some (r', { f with Epoch := v, Holds := [] }) ∧ ((v = n ∧ At q s r') ∨ (v = 0 ∧ Lost q r')) := by
 obtain ⟨v, r', e, h'⟩ := Number_any h hn
 exact ⟨v, r', by rw [wire_read_2, e]; rfl, h'⟩
theorem read_lock {q s : List Int} {l : TLock} {r : YosR} {f : TField} (h : At q (encN l.Seq ++ (encN l.Ver ++ (encN l.Holder ++ (encN l.Value ++ s)))) r ∨ Lost q r)
  (h1 : IsN l.Seq) (h2 : IsN l.Ver) (h3 : IsN l.Holder) (h4 : IsN l.Value) :
  ∃ l' r', wire_read_3 r f = some (r', { f with Lock := l', Holds := [] }) ∧ ((l' = l ∧ At q s r') ∨ Lost q r') := by
 obtain ⟨v1, r1, e1, g1⟩ := Number_any h h1
 obtain ⟨v2, r2, e2, g2⟩ := Number_any (or2 g1) h2
 obtain ⟨v3, r3, e3, g3⟩ := Number_any (or2 g2) h3
 obtain ⟨v4, r4, e4, g4⟩ := Number_any (or2 g3) h4
 refine ⟨⟨v1, v2, v3, v4⟩, r4, by simp only [wire_read_3, e1, e2, e3, e4, Option.bind_some], ?_⟩
 have back : ∀ {a b : YosR} {v : Int}, Lost q a → octets_Reader_Number a = some (v, b) → Lost q b := fun ha hb => by
  rw [Number_lost ha] at hb; cases hb; exact ha
 rcases g4 with ⟨rfl, g4⟩ | ⟨_, g4⟩
 ·have no : ∀ {a : YosR}, Lost q a → ¬ At q s a := fun ha hb => ha.ne hb.e
  rcases g3 with ⟨rfl, g3⟩ | ⟨_, g3⟩
  ·rcases g2 with ⟨rfl, g2⟩ | ⟨_, g2⟩
   ·rcases g1 with ⟨rfl, g1⟩ | ⟨_, g1⟩
    ·exact .inl ⟨rfl, g4⟩
    ·exact absurd g4 (no (back (back (back g1 e2) e3) e4))
   ·exact absurd g4 (no (back (back g2 e3) e4))
  ·exact absurd g4 (no (back g3 e4))
 ·exact .inr g4
theorem read_counter {q s : List Int} {a b c : Int} {r : YosR} {f : TField} (h : At q (encN a ++ (encN b ++ (encN c ++ s))) r ∨ Lost q r) (h1 : IsN a) (h2 : IsN b) (h3 : IsN c) :
  ∃ x y z r', wire_read_4 r f = some (r', { f with Counter := { f.Counter with Init := x, Low := y, High := z }, Holds := [] }) ∧ (((x = a ∧ y = b ∧ z = c) ∧ At q s r') ∨ Lost q r') := by
 obtain ⟨v1, r1, e1, g1⟩ := Number_any h h1
 obtain ⟨v2, r2, e2, g2⟩ := Number_any (or2 g1) h2
 obtain ⟨v3, r3, e3, g3⟩ := Number_any (or2 g2) h3
 refine ⟨v1, v2, v3, r3, by simp only [wire_read_4, e1, e2, e3, Option.bind_some], ?_⟩
 have back : ∀ {a b : YosR} {v : Int}, Lost q a → octets_Reader_Number a = some (v, b) → Lost q b := fun ha hb => by
  rw [Number_lost ha] at hb; cases hb; exact ha
 have no : ∀ {a : YosR}, Lost q a → ¬ At q s a := fun ha hb => ha.ne hb.e
 rcases g3 with ⟨rfl, g3⟩ | ⟨_, g3⟩
 ·rcases g2 with ⟨rfl, g2⟩ | ⟨_, g2⟩
  ·rcases g1 with ⟨rfl, g1⟩ | ⟨_, g1⟩
   ·exact .inl ⟨⟨rfl, rfl, rfl⟩, g3⟩
   ·exact absurd g3 (no (back (back g1 e2) e3))
  ·exact absurd g3 (no (back g2 e3))
 ·exact .inr g3

/-! The lens of vectors. -/
theorem rgk_rsk {r : TRights} {i : Nat} {v : Vector Int 16} (hi : i < 18) : rgk (rsk r i v) i = v := by
 unfold rgk rsk
 by_cases h0 : i = 0
 ·simp [h0]
 ·by_cases h1 : i = 1
  ·simp [h1]
  ·have h2 : i - 2 < 16 := by omega
   simp [h0, h1, h2, Vector.get]
theorem rgk_other {r : TRights} {i j : Nat} {v : Vector Int 16} (hi : i < 18) (hj : j < 18) (h : i ≠ j) : rgk (rsk r i v) j = rgk r j := by
 unfold rgk rsk
 by_cases h0 : i = 0
 ·subst h0; simp [Ne.symm h]
 ·by_cases h1 : i = 1
  ·subst h1
   by_cases j0 : j = 0
   ·simp [j0]
   ·simp [j0, Ne.symm h]
  ·have h2 : i - 2 < 16 := by omega
   by_cases j0 : j = 0
   ·simp [h0, h1, h2, j0]
   ·by_cases j1 : j = 1
    ·simp [h0, h1, h2, j1]
    ·have j2 : j - 2 < 16 := by omega
     simp only [h0, h1, h2, j0, j1, j2, if_false, dif_pos, if_neg, dite_true, not_false_eq_true, Vector.get]
     simp
     rw [Array.getElem_set, if_neg (by omega)]
     rfl
theorem vgk_vsk {c : TCounter} {k : Nat} {v : Vector Int 16} : vgk (vsk c k v) k = v := by
 have hm : k % 18 < 18 := Nat.mod_lt _ (by decide)
 unfold vgk vsk
 by_cases h : k < 18 <;> simp [h, rgk_rsk hm]
theorem vgk_other {c : TCounter} {k j : Nat} {v : Vector Int 16} (hk : k < 36) (hj : j < 36) (h : k ≠ j) : vgk (vsk c k v) j = vgk c j := by
 have hm : k % 18 < 18 := Nat.mod_lt _ (by decide)
 have hn : j % 18 < 18 := Nat.mod_lt _ (by decide)
 unfold vgk vsk
 by_cases a : k < 18 <;> by_cases b : j < 18
 ·simp [a, b, rgk_other hm hn (show k % 18 ≠ j % 18 from by rw [Nat.mod_eq_of_lt a, Nat.mod_eq_of_lt b]; exact h)]
 ·simp [a, b]
 ·simp [a, b]
 ·simp [a, b, rgk_other hm hn (show k % 18 ≠ j % 18 from by omega)]
theorem vsk_nums {c : TCounter} {k : Nat} {v : Vector Int 16} : (vsk c k v).Init = c.Init ∧ (vsk c k v).Low = c.Low ∧ (vsk c k v).High = c.High := by
 unfold vsk; split <;> exact ⟨rfl, rfl, rfl⟩
theorem nums_same {c c' : TCounter} (h : c'.Init = c.Init ∧ c'.Low = c.Low ∧ c'.High = c.High) {c'' : TCounter} (k : c''.Init = c'.Init ∧ c''.Low = c'.Low ∧ c''.High = c'.High) : c''.Init = c.Init ∧ c''.Low = c.Low ∧ c''.High = c.High :=
 ⟨k.1.trans h.1, k.2.1.trans h.2.1, k.2.2.trans h.2.2⟩
theorem readVec {q s : List Int} {k : Fin 36} {xs : Vector Int 16} {nm : ByteArray} {kd ep : Int} {c : TCounter} {lk : TLock} {r : YosR} (hx : ∀ n ∈ xs.toList, IsN n) (h : At q (xs.toList.flatMap encN ++ s) r ∨ Lost q r) :
  ∃ b i c' r', loopM (wire_Decode_L2 k) fuel (0, nm, kd, ep, c, lk, r) = some (b, nm, kd, ep, c', lk, r', i) ∧ (c'.Init = c.Init ∧ c'.Low = c.Low ∧ c'.High = c.High) ∧
   (∀ j, j < 36 → j ≠ k.val → vgk c' j = vgk c j) ∧ ((vgk c' k.val = xs ∧ At q s r') ∨ Lost q r') ∧ (Lost q r → Lost q r') := by
 have main := loopM_ind (body := wire_Decode_L2 k) (fun i st => ∃ c' r', st = ((i : Int), nm, kd, ep, c', lk, r') ∧ (c'.Init = c.Init ∧ c'.Low = c.Low ∧ c'.High = c.High) ∧ (∀ j, j < 36 → j ≠ k.val → vgk c' j = vgk c j) ∧
   (((∀ j (hj : j < 16), j < i → (vgk c' k.val)[j] = xs[j]) ∧ At q ((xs.toList.drop i).flatMap encN ++ s) r') ∨ Lost q r') ∧ (Lost q r → Lost q r')) 16 (by omega)
  (fun o => ∃ b i c' r', o = (b, nm, kd, ep, c', lk, r', i) ∧ (c'.Init = c.Init ∧ c'.Low = c.Low ∧ c'.High = c.High) ∧ (∀ j, j < 36 → j ≠ k.val → vgk c' j = vgk c j) ∧ ((vgk c' k.val = xs ∧ At q s r') ∨ Lost q r') ∧ (Lost q r → Lost q r'))
  ?_ ?_ (s0 := (0, nm, kd, ep, c, lk, r)) ⟨c, r, rfl, ⟨rfl, rfl, rfl⟩, fun _ _ _ => rfl, h.imp (fun h => ⟨fun j hj h => by omega, by simpa using h⟩) id, id⟩
 ·obtain ⟨o, h1, b, i, c', r', rfl, h2⟩ := main
  exact ⟨b, i, c', r', h1, h2⟩
 ·rintro i st hi ⟨c', r', rfl, hn, ho, hr, hll⟩
  have hd : xs.toList.drop i = xs[i] :: xs.toList.drop (i + 1) := by
   rw [List.drop_eq_getElem_cons (by simpa using hi)]
   simp
  have hm : IsN xs[i] := hx _ (by simp)
  obtain ⟨v, r'', e, g⟩ := Number_any (hr.imp (fun h => by have := h.2; rw [hd, List.flatMap_cons, List.append_assoc] at this; exact this) id) hm
  refine .inl ⟨((i + 1 : Nat), nm, kd, ep, vsk c' k.val ((vgk c' k.val).set i v), lk, r''), ?_, _, r'', rfl, nums_same hn vsk_nums, fun j hj hk => ?_, ?_, fun hq => ?_⟩
  ·simp only [wire_Decode_L2, wire_read_6, decide_eq_true (show ((i : Nat) : Int) < 16 from by omega), if_true]
   rw [fix_of hi]
   simp only [Option.bind_some, e]
   rw [wr_succ (by omega)]
  ·rw [vgk_other k.isLt hj (Ne.symm hk)]; exact ho j hj hk
  ·rcases g with ⟨rfl, g⟩ | ⟨rfl, g⟩
   ·rcases hr with ⟨hv, ha⟩ | hl
    ·refine .inl ⟨fun j hj hji => ?_, g⟩
     rw [getElem_congr_coll vgk_vsk, Vector.getElem_set]
     split
     ·rename_i hij; subst hij; rfl
     ·exact hv j hj (by omega)
    ·exact .inr ((Prod.mk.inj (Option.some.inj ((Number_lost hl).symm.trans e))).2 ▸ hl)
   ·exact .inr g
  ·exact (Prod.mk.inj (Option.some.inj ((Number_lost (hll hq)).symm.trans e))).2 ▸ hll hq
 ·rintro st ⟨c', r', rfl, hn, ho, hr, hll⟩
  refine ⟨(false, nm, kd, ep, c', lk, r', 16), by simp [wire_Decode_L2], _, _, _, _, rfl, hn, ho, hr.imp (fun h => ⟨?_, ?_⟩) id, hll⟩
  ·apply Vector.ext; intro j hj; exact h.1 j hj hj
  ·have := h.2
   rw [List.drop_of_length_le (by simp)] at this
   simpa using this
/-- The vectors of a counter, one behind another. -/
def vecs (c : TCounter) (i : Nat) : List Int := ((List.range 36).drop i).flatMap fun k => (vgk c k).toList
theorem readVecs {q s : List Int} {t : TCounter} {nm : ByteArray} {kd ep : Int} {c : TCounter} {lk : TLock} {r : YosR} (hx : ∀ k, k < 36 → ∀ n ∈ (vgk t k).toList, IsN n) (h : At q ((vecs t 0).flatMap encN ++ s) r ∨ Lost q r) :
  ∃ c' r', loopM wire_Decode_L1 fuel (0, nm, kd, ep, c, lk, r) = some (nm, kd, ep, c', lk, r') ∧ (c'.Init = c.Init ∧ c'.Low = c.Low ∧ c'.High = c.High) ∧ (((∀ k, k < 36 → vgk c' k = vgk t k) ∧ At q s r') ∨ Lost q r') ∧ (Lost q r → Lost q r') := by
 have main := loopM_ind (body := wire_Decode_L1) (fun i st => ∃ c' r', st = ((i : Int), nm, kd, ep, c', lk, r') ∧ (c'.Init = c.Init ∧ c'.Low = c.Low ∧ c'.High = c.High) ∧
   (((∀ k, k < i → vgk c' k = vgk t k) ∧ At q ((vecs t i).flatMap encN ++ s) r') ∨ Lost q r') ∧ (Lost q r → Lost q r')) 36 (by omega)
  (fun o => ∃ c' r', o = (nm, kd, ep, c', lk, r') ∧ (c'.Init = c.Init ∧ c'.Low = c.Low ∧ c'.High = c.High) ∧ (((∀ k, k < 36 → vgk c' k = vgk t k) ∧ At q s r') ∨ Lost q r') ∧ (Lost q r → Lost q r'))
  ?_ ?_ (s0 := (0, nm, kd, ep, c, lk, r)) ⟨c, r, rfl, ⟨rfl, rfl, rfl⟩, h.imp (fun h => ⟨fun k hk => by omega, h⟩) id, id⟩
 ·obtain ⟨o, h1, c', r', rfl, h2⟩ := main
  exact ⟨c', r', h1, h2⟩
 ·rintro i st hi ⟨c', r', rfl, hn, hr, hll⟩
  have hd : vecs t i = (vgk t i).toList ++ vecs t (i + 1) := by
   unfold vecs
   rw [List.drop_eq_getElem_cons (by simpa using hi), List.flatMap_cons]
   simp
  obtain ⟨b, j, c'', r'', e, g1, g2, g3, g5⟩ := readVec (k := ⟨i, hi⟩) (nm := nm) (kd := kd) (ep := ep) (c := c') (lk := lk) (hx i hi) (s := (vecs t (i + 1)).flatMap encN ++ s) (r := r') (hr.imp (fun h => by
   have := h.2; rw [hd, List.flatMap_append, List.append_assoc] at this; exact this) id)
  refine .inl ⟨((i + 1 : Nat), nm, kd, ep, c'', lk, r''), ?_, c'', r'', rfl, nums_same hn g1, ?_, fun hq => g5 (hll hq)⟩
  ·simp only [wire_Decode_L1, decide_eq_true (show ((i : Nat) : Int) < 36 from by omega), if_true]
   rw [fix_of hi]
   simp only [Option.bind_some, e]
   rw [wr_succ (by omega)]
  ·rcases g3 with ⟨g3, g4⟩ | g3
   ·rcases hr with ⟨hv, ha⟩ | hl
    ·refine .inl ⟨fun k hk => ?_, g4⟩
     by_cases hki : k = i
     ·subst hki; exact g3
     ·rw [g2 k (by omega) hki]; exact hv k (by omega)
    ·exact .inr (g5 hl)
   ·exact .inr g3
 ·rintro st ⟨c', r', rfl, hn, hr, hll⟩
  have e : vecs t 36 = [] := by unfold vecs; rw [List.drop_of_length_le (by simp)]; rfl
  exact ⟨(nm, kd, ep, c', lk, r'), by simp [wire_Decode_L1], _, _, rfl, hn, hr.imp (fun h => ⟨h.1, by have := h.2; rw [e] at this; simpa using this⟩) id, hll⟩
theorem lost_same {q : List Int} {r r' : YosR} {v : Int} (h : Lost q r) (e : octets_Reader_Number r = some (v, r')) : Lost q r' :=
 (Prod.mk.inj (Option.some.inj ((Number_lost h).symm.trans e))).2 ▸ h
def holdN (x : THold) : List Int := [x.Replica, x.Number, x.Amount, x.Due, x.State]
theorem read_hold {q s : List Int} {x y : THold} {r : YosR} (hx : ∀ n ∈ holdN x, IsN n) (h : At q ((holdN x).flatMap encN ++ s) r ∨ Lost q r) :
  ∃ z r', wire_read_7 r y = some (r', z) ∧ ((z = x ∧ At q s r') ∨ Lost q r') ∧ (Lost q r → Lost q r') := by
 simp only [holdN, List.flatMap_cons, List.flatMap_nil, List.append_assoc, List.nil_append] at h
 obtain ⟨v1, r1, e1, g1⟩ := Number_any h (hx _ (by simp [holdN]))
 obtain ⟨v2, r2, e2, g2⟩ := Number_any (or2 g1) (hx _ (by simp [holdN]))
 obtain ⟨v3, r3, e3, g3⟩ := Number_any (or2 g2) (hx _ (by simp [holdN]))
 obtain ⟨v4, r4, e4, g4⟩ := Number_any (or2 g3) (hx _ (by simp [holdN]))
 obtain ⟨v5, r5, e5, g5⟩ := Number_any (or2 g4) (hx _ (by simp [holdN]))
 have no : ∀ {a : YosR}, Lost q a → ¬ At q s a := fun ha hb => ha.ne hb.e
 refine ⟨⟨v1, v2, v3, v4, v5⟩, r5, by simp only [wire_read_7, e1, e2, e3, e4, e5, Option.bind_some, letM_eq], ?_, fun hq => lost_same (lost_same (lost_same (lost_same (lost_same hq e1) e2) e3) e4) e5⟩
 rcases g5 with ⟨rfl, g5⟩ | ⟨_, g5⟩
 ·rcases g4 with ⟨rfl, g4⟩ | ⟨_, g4⟩
  ·rcases g3 with ⟨rfl, g3⟩ | ⟨_, g3⟩
   ·rcases g2 with ⟨rfl, g2⟩ | ⟨_, g2⟩
    ·rcases g1 with ⟨rfl, g1⟩ | ⟨_, g1⟩
     ·exact .inl ⟨rfl, g5⟩
     ·exact absurd g5 (no (lost_same (lost_same (lost_same (lost_same g1 e2) e3) e4) e5))
    ·exact absurd g5 (no (lost_same (lost_same (lost_same g2 e3) e4) e5))
   ·exact absurd g5 (no (lost_same (lost_same g3 e4) e5))
  ·exact absurd g5 (no (lost_same g4 e5))
 ·exact .inr g5
def holdsN (xs : List THold) : List Int := xs.flatMap holdN
theorem readHolds {q s : List Int} {xs : List THold} {r r0 : YosR} (hl : xs.length ≤ 1000) (hx : ∀ x ∈ xs, ∀ n ∈ holdN x, IsN n) (h : At q ((holdsN xs).flatMap encN ++ s) r ∨ Lost q r) :
  ∃ ys r', loopM (wire_Decode_L3 ((xs.length : Int), r0)) fuel (0, [], r) = some (ys, r') ∧ ((ys = xs ∧ At q s r') ∨ Lost q r') := by
 have main := loopM_ind (body := wire_Decode_L3 ((xs.length : Int), r0)) (fun i st => ∃ ys r', st = ((i : Int), ys, r') ∧ ys.length = i ∧ ((ys = xs.take i ∧ At q ((holdsN (xs.drop i)).flatMap encN ++ s) r') ∨ Lost q r')) xs.length (by omega)
  (fun o => ∃ ys r', o = (ys, r') ∧ ((ys = xs ∧ At q s r') ∨ Lost q r')) ?_ ?_ (s0 := (0, [], r)) ⟨[], r, rfl, rfl, h.imp (fun h => ⟨by simp, by simpa using h⟩) id⟩
 ·obtain ⟨o, h1, ys, r', rfl, h2⟩ := main
  exact ⟨ys, r', h1, h2⟩
 ·rintro i st hi ⟨ys, r', rfl, hy, hr⟩
  have hd : holdsN (xs.drop i) = holdN xs[i] ++ holdsN (xs.drop (i + 1)) := by
   rw [List.drop_eq_getElem_cons hi]; rfl
  obtain ⟨z, r'', e, g1, g2⟩ := read_hold (y := default) (hx _ (List.getElem_mem hi)) (s := (holdsN (xs.drop (i + 1))).flatMap encN ++ s) (r := r') (hr.imp (fun h => by
   have := h.2; rw [hd, List.flatMap_append, List.append_assoc] at this; exact this) id)
  refine .inl ⟨((i + 1 : Nat), ys ++ [z], r''), ?_, _, r'', rfl, by simp [hy], ?_⟩
  ·simp only [wire_Decode_L3, decide_eq_true (show ((i : Nat) : Int) < (xs.length : Int) from by omega), if_true, e, Option.bind_some]
   rw [app_of (by simp; omega)]
   simp only [Option.bind_some]
   rw [wr_succ (by omega)]
  ·rcases g1 with ⟨rfl, g1⟩ | g1
   ·rcases hr with ⟨rfl, ha⟩ | hl
    ·exact .inl ⟨by rw [List.take_add_one, List.getElem?_eq_getElem hi]; rfl, g1⟩
    ·exact .inr (g2 hl)
   ·exact .inr g1
 ·rintro st ⟨ys, r', rfl, hy, hr⟩
  exact ⟨(ys, r'), by simp [wire_Decode_L3], _, _, rfl, hr.imp (fun h => ⟨by simpa using h.1, by have := h.2; simpa [holdsN] using this⟩) id⟩
/-- At a loss nothing is counted. -/
theorem readHolds_lost {r : YosR} : loopM (wire_Decode_L3 (0, r)) fuel (0, [], r) = some ([], r) := by
 have : fuel = (fuel - 1) + 1 := by have := fuel_big; omega
 rw [this, loopM]
 simp [wire_Decode_L3]
def noField : TField := ⟨default, 0, 0, default, default, []⟩
def fin_ (v : Int) (r : YosR) (f : TField) : Option (Int × TField × Int) :=
 Option.bind (octets_Reader_End r) fun r11 =>
 Option.bind (gd ((decide (r11.1 = 0)) = true) (wire_Says v f)) fun r12 =>
 if ((decide (r11.1 = 0)) && (!r12)) = true then
  if (!decide ((4 : Int) = 0)) = true then some (0, noField, 4) else some (v, f, 0)
 else
  if (!decide (r11.1 = 0)) = true then some (0, noField, r11.1) else some (v, f, 0)
def rest_ (v : Int) (r : YosR) (g : TField) : Option (Int × TField × Int) :=
 if (decide (g.Kind = 2)) = true then
  Option.bind (wire_read_3 r ⟨g.Name, g.Kind, g.Epoch, g.Counter, g.Lock, []⟩) fun r10 => fin_ v r10.1 ⟨r10.2.Name, r10.2.Kind, r10.2.Epoch, r10.2.Counter, r10.2.Lock, []⟩
 else
  if (decide (g.Kind = 1)) = true then
   Option.bind (wire_read_4 r ⟨g.Name, g.Kind, g.Epoch, g.Counter, g.Lock, []⟩) fun r17 =>
   Option.bind (loopM wire_Decode_L1 fuel (0, r17.2.Name, r17.2.Kind, r17.2.Epoch, r17.2.Counter, r17.2.Lock, r17.1)) fun x23 =>
   if (decide (1 < v)) = true then
    Option.bind (octets_Reader_Count 16 x23.2.2.2.2.2) fun r30 =>
    Option.bind (loopM (wire_Decode_L3 r30) fuel (0, [], r30.2)) fun x33 => fin_ v x33.2 ⟨x23.1, x23.2.1, x23.2.2.1, x23.2.2.2.1, x23.2.2.2.2.1, x33.1⟩
   else fin_ v x23.2.2.2.2.2 ⟨x23.1, x23.2.1, x23.2.2.1, x23.2.2.2.1, x23.2.2.2.2.1, []⟩
  else fin_ v r ⟨g.Name, g.Kind, g.Epoch, g.Counter, g.Lock, []⟩
theorem wire_Decode_eq (a : List Int) : wire_Decode a =
  Option.bind (octets_New_own a) fun r2 =>
  Option.bind (octets_Reader_Number r2) fun r3 =>
  Option.bind (octets_Reader_Err r3.2) fun r4 =>
  Option.bind (gd ((decide (r4.1 = 0)) = true) (wire_is r3.1)) fun r5 =>
  if ((decide (r4.1 = 0)) && (!r5)) = true then some (0, noField, 18)
  else
   Option.bind (wire_read r4.2 noField) fun r7 =>
   Option.bind (octets_Reader_Text 8 r7.1) fun r8 =>
   if (decide (r3.1 = 3)) = true then
    Option.bind (wire_read_2 r8.2 ⟨r8.1, r7.2.Kind, r7.2.Epoch, r7.2.Counter, r7.2.Lock, []⟩) fun r9 => rest_ r3.1 r9.1 r9.2
   else rest_ r3.1 r8.2 ⟨r8.1, r7.2.Kind, r7.2.Epoch, r7.2.Counter, r7.2.Lock, []⟩ := rfl
theorem fin_lost {q : List Int} {v : Int} {r : YosR} {f : TField} (h : Lost q r) : fin_ v r f = some (0, noField, 3) := by
 unfold fin_
 rw [End_lost h]
 rfl
theorem fin_at {s : List Int} {v : Int} {r : YosR} {f : TField} (h : At [] s r) (hs : wire_Says v f = some true) : fin_ v r f = some (if s = [] then (v, f, 0) else (0, noField, 5)) := by
 unfold fin_
 rw [End_at h rfl]
 by_cases c : s = []
 ·simp [c, hs]
 ·simp [c]
def tailN (v : Int) (f : TField) : List Int :=
 if f.Kind = 2 then [f.Lock.Seq, f.Lock.Ver, f.Lock.Holder, f.Lock.Value] else [f.Counter.Init, f.Counter.Low, f.Counter.High] ++ (vecs f.Counter 0 ++ if v = 1 then [] else (f.Holds.length : Int) :: holdsN f.Holds)
theorem vgk_default {k : Nat} : ∀ n ∈ (vgk (default : TCounter) k).toList, IsN n := by
 have h0 : ∀ n ∈ (default : Vector Int 16).toList, IsN n := by decide
 have h1 : ∀ i, rgk (default : TRights) i = default := by
  intro i
  unfold rgk
  split
  ·rfl
  ·split
   ·rfl
   ·split
    ·rename_i h; exact (by decide : ∀ j : Fin 16, (default : TRights).Moved.get j = default) _
    ·rfl
 unfold vgk
 split
 ·show ∀ n ∈ (rgk (default : TRights) _).toList, IsN n
  rw [h1]; exact h0
 ·show ∀ n ∈ (rgk (default : TRights) _).toList, IsN n
  rw [h1]; exact h0
theorem rest_lost {q : List Int} {v : Int} {r : YosR} {g : TField} (h : Lost q r) : rest_ v r g = some (0, noField, 3) := by
 unfold rest_
 by_cases k2 : g.Kind = 2
 ·rw [if_pos (decide_eq_true k2)]
  simp only [wire_read_3, Number_lost h, Option.bind_some]
  exact fin_lost h
 ·rw [if_neg (by simp [k2])]
  by_cases k1 : g.Kind = 1
  ·rw [if_pos (decide_eq_true k1)]
   simp only [wire_read_4, Number_lost h, Option.bind_some]
   obtain ⟨c', r', e, _, _, hl⟩ := readVecs (q := q) (s := []) (t := default) (nm := g.Name) (kd := g.Kind) (ep := g.Epoch) (c := { g.Counter with Init := 0, Low := 0, High := 0 }) (lk := g.Lock) (r := r) (fun k _ => vgk_default) (.inr h)
   have hl' := hl h
   simp only [e, Option.bind_some]
   by_cases hv : 1 < v
   ·rw [if_pos (decide_eq_true hv), Count_lost hl']
    simp only [Option.bind_some]
    rw [readHolds_lost]
    exact fin_lost hl'
   ·rw [if_neg (by simp [hv])]
    exact fin_lost hl'
  ·rw [if_neg (by simp [k1])]
   exact fin_lost h
theorem rights_ext {a b : TRights} (h : ∀ i, i < 18 → rgk a i = rgk b i) : a = b := by
 have h0 := h 0 (by omega)
 have h1 := h 1 (by omega)
 have h2 : a.Moved = b.Moved := by
  apply Vector.ext
  intro j hj
  have := h (j + 2) (by omega)
  simp [rgk, hj, Vector.get] at this
  exact this
 obtain ⟨a1, a2, a3⟩ := a
 obtain ⟨b1, b2, b3⟩ := b
 simp [rgk] at h0 h1 h2
 subst h0 h1 h2
 rfl
theorem counter_ext {a b : TCounter} (h : ∀ k, k < 36 → vgk a k = vgk b k) (h1 : a.Init = b.Init ∧ a.Low = b.Low ∧ a.High = b.High) : a = b := by
 have hd : a.Down = b.Down := rights_ext fun i hi => by
  have := h i (by omega)
  simpa [vgk, hi, Nat.mod_eq_of_lt hi] using this
 have hu : a.Up = b.Up := rights_ext fun i hi => by
  have := h (i + 18) (by omega)
  simpa [vgk, hi, Nat.mod_eq_of_lt hi, show ¬ i + 18 < 18 from by omega] using this
 obtain ⟨a1, a2, a3, a4, a5⟩ := a
 obtain ⟨b1, b2, b3, b4, b5⟩ := b
 obtain ⟨e1, e2, e3⟩ := h1
 simp at e1 e2 e3 hd hu
 subst e1 e2 e3 hd hu
 rfl
theorem vec_isN {v : Vector Int 16} (h : VOk v) : ∀ n ∈ v.toList, IsN n := by
 intro n hn
 obtain ⟨i, hi, rfl⟩ := List.getElem_of_mem hn
 have := h ⟨i, by simpa using hi⟩
 simp [Vector.get] at this
 unfold IsN
 simp
 omega
theorem rgk_ok {r : TRights} (h : ROk r) {i : Nat} (hi : i < 18) : VOk (rgk r i) := by
 unfold rgk
 split
 ·exact h.1
 ·split
  ·exact h.2.1
  ·rw [dif_pos (by omega)]; exact (h.2.2 _).1
theorem vgk_ok {c : TCounter} (h : COk c) {k : Nat} (hk : k < 36) : ∀ n ∈ (vgk c k).toList, IsN n := by
 unfold vgk
 split
 ·exact vec_isN (rgk_ok h.2.2.2.2.2.1 (Nat.mod_lt _ (by decide)))
 ·exact vec_isN (rgk_ok h.2.2.2.2.2.2.1 (Nat.mod_lt _ (by decide)))
theorem hold_isN {h : THold} (k : HOk h) : ∀ n ∈ holdN h, IsN n := by
 unfold HOk Cnt at k
 intro n hn
 unfold IsN
 simp [holdN] at hn
 rcases hn with rfl | rfl | rfl | rfl | rfl <;> omega
theorem rest_at {q m : List Int} {v : Int} {f : TField} {r : YosR} (hF : FOk f) (hv : 1 ≤ v ∧ v ≤ 3) (he : v = 1 → f.Holds = []) (h : At q ((tailN v f).flatMap encN ++ m) r) :
  ∃ f' r', rest_ v r ⟨f.Name, f.Kind, f.Epoch, default, default, []⟩ = fin_ v r' f' ∧ ((f' = f ∧ At q m r') ∨ Lost q r') := by
 unfold rest_
 obtain ⟨nm, kd, ep, ct, lk, hs⟩ := f
 obtain ⟨_, _, hk⟩ := hF
 simp only at hk he ⊢
 rcases hk with ⟨rfl, hc, hr, rfl⟩ | ⟨rfl, hl, rfl, rfl⟩
 ·rw [if_neg (by simp), if_pos (by simp)]
  simp only [tailN, show ¬ (1 : Int) = 2 from by decide, if_false, List.flatMap_append, List.flatMap_cons, List.flatMap_nil, List.append_assoc, List.nil_append, List.append_nil] at h
  obtain ⟨x, y, z, r1, e1, g1⟩ := read_counter (f := ⟨nm, 1, ep, default, default, []⟩) (.inl h) hc.1 hc.2.1 hc.2.2.1
  simp only [e1, Option.bind_some]
  obtain ⟨c', r2, e2, n2, g2, l2⟩ := readVecs (nm := nm) (kd := 1) (ep := ep) (c := ⟨x, y, z, (default : TCounter).Down, (default : TCounter).Up⟩) (lk := default) (t := ct) (fun k hk => vgk_ok hc hk) (g1.imp And.right id)
  simp only [e2, Option.bind_some]
  have whole : ∀ {t}, (((∀ k, k < 36 → vgk c' k = vgk ct k) ∧ At q t r2)) → c' = ct := fun {t} g => by
   rcases g1 with ⟨⟨rfl, rfl, rfl⟩, _⟩ | g1
   ·exact counter_ext g.1 n2
   ·exact absurd g.2.e (l2 g1).ne
  by_cases hv1 : 1 < v
  ·rw [if_pos (decide_eq_true hv1)]
   simp only [show ¬ v = 1 from by omega, if_false, List.flatMap_cons, List.append_assoc] at g2
   rcases g2 with ⟨gv, a2⟩ | l
   ·have := whole ⟨gv, a2⟩
    subst this
    rcases Count_st a2 (by unfold IsN; have := hr.2.2; omega) (by omega) (m := 16) (by have := hr.2.2; omega) with ⟨r3, e3, a3⟩ | ⟨r3, e3, l3⟩
    ·simp only [e3, Option.bind_some]
     obtain ⟨ys, r4, e4, g4⟩ := readHolds (r0 := r3) (by have := hr.2.2; omega) (fun x hx => hold_isN (hr.1 x hx)) (.inl a3)
     simp only [e4, Option.bind_some]
     exact ⟨_, r4, rfl, g4.imp (fun g => ⟨by rw [g.1]; rfl, g.2⟩) id⟩
    ·simp only [e3, Option.bind_some, readHolds_lost]
     exact ⟨_, r3, rfl, .inr l3⟩
   ·rw [Count_lost l]
    simp only [Option.bind_some, readHolds_lost]
    exact ⟨_, r2, rfl, .inr l⟩
  ·rw [if_neg (by simp [hv1])]
   have e1 : v = 1 := by omega
   obtain rfl := he e1
   simp only [e1, if_true, List.flatMap_nil, List.nil_append] at g2
   refine ⟨_, r2, rfl, ?_⟩
   rcases g2 with g2 | l
   ·have := whole g2
    subst this
    exact .inl ⟨rfl, g2.2⟩
   ·exact .inr l
 ·rw [if_pos (by simp)]
  simp only [tailN, if_true, List.flatMap_cons, List.flatMap_nil, List.append_assoc, List.nil_append, List.append_nil] at h
  obtain ⟨h1, h2, h3, h4, h5⟩ := hl
  obtain ⟨l', r', e, g⟩ := read_lock (f := ⟨nm, 2, ep, default, default, []⟩) (.inl h) h1.2 h2.2 (by unfold IsN; omega) h5
  rw [e]
  refine ⟨_, r', rfl, g.imp (fun g => ⟨?_, g.2⟩) id⟩
  rw [g.1]
  rfl
def bytesF (v : Int) (f : TField) : List Int := encN v ++ (encN f.Kind ++ (encN (f.Name.size : Int) ++ (bytesOf f.Name ++ ((if v = 3 then encN f.Epoch else []) ++ (tailN v f).flatMap encN))))
theorem Decode_any {q m : List Int} {v : Int} {f : TField} {b : List Int} (hS : SaysP v f) (hb : b ++ q = bytesF v f ++ m) (hl : b.length ≤ 1000000) :
  (∃ f' r', wire_Decode b = fin_ v r' f' ∧ ((f' = f ∧ At q m r') ∨ Lost q r')) ∨ (wire_Decode b = some (0, noField, 3) ∧ q ≠ []) := by
 obtain ⟨hF, hv, hep, hho⟩ := hS
 have hN := hF.1
 have hsz := hN.2.2
 have hK : f.Kind = 1 ∨ f.Kind = 2 := hF.2.2.imp (·.1) (·.1)
 have hE : IsN f.Epoch := hF.2.1.2
 rw [wire_Decode_eq]
 have e0 : octets_New_own b = some ⟨b, 0⟩ := by
  unfold octets_New_own
  rw [app_of (by simp; omega)]
  rfl
 have h0 : At q (encN v ++ (encN f.Kind ++ (encN (f.Name.size : Int) ++ (bytesOf f.Name ++ ((if v = 3 then encN f.Epoch else []) ++ ((tailN v f).flatMap encN ++ m)))))) ⟨b, 0⟩ :=
  ⟨rfl, by rw [hb]; simp only [bytesF, List.append_assoc], by show b.length ≤ _; omega⟩
 rw [e0]
 simp only [Option.bind_some]
 rcases Number_st h0 (by unfold IsN; omega) with ⟨r1, e1, h1⟩ | ⟨r1, e1, l1⟩
 ·simp only [e1, Option.bind_some, octets_Reader_Err, h1.e, decide_true]
  rw [gd_t trivial, wire_is_eq]
  simp only [Option.bind_some, decide_eq_true hv, Bool.not_true, Bool.and_false, Bool.false_eq_true, if_false]
  obtain ⟨k, r2, e2, g2⟩ := read_kind (f := noField) (.inl h1) (by unfold IsN; rcases hK with h | h <;> omega)
  simp only [e2, Option.bind_some]
  rcases g2 with ⟨rfl, h2⟩ | ⟨rfl, l2⟩
  ·rcases Text_st (m := 8) h2 (by omega) (by omega) with ⟨r3, e3, h3⟩ | ⟨y, r3, e3, l3⟩
   ·simp only [e3, Option.bind_some]
    by_cases v3 : v = 3
    ·subst v3
     rw [if_pos (by simp)]
     simp only [if_true] at h3
     obtain ⟨ep, r4, e4, g4⟩ := read_epoch (f := ⟨f.Name, f.Kind, noField.Epoch, noField.Counter, noField.Lock, []⟩) (.inl h3) hE
     simp only [e4, Option.bind_some]
     rcases g4 with ⟨rfl, h4⟩ | ⟨rfl, l4⟩
     ·obtain ⟨f', r5, e5, g5⟩ := rest_at hF hv (fun h => by omega) h4
      exact .inl ⟨f', r5, e5, g5⟩
     ·exact .inr ⟨rest_lost l4, l4.1⟩
    ·rw [if_neg (by simp [v3])]
     simp only [v3, if_false, List.nil_append] at h3
     have hz : f.Epoch = 0 := hep.resolve_left v3
     obtain ⟨f', r5, e5, g5⟩ := rest_at hF hv (fun h => hho.resolve_left (by omega)) h3
     rw [hz] at e5
     exact .inl ⟨f', r5, e5, g5⟩
   ·simp only [e3, Option.bind_some]
    refine .inr ⟨?_, l3.1⟩
    split
    ·simp only [wire_read_2, Number_lost l3, Option.bind_some]; exact rest_lost l3
    ·exact rest_lost l3
  ·obtain ⟨y, e3⟩ := Text_lost (m := 8) l2
   simp only [e3, Option.bind_some]
   refine .inr ⟨?_, l2.1⟩
   split
   ·simp only [wire_read_2, Number_lost l2, Option.bind_some]; exact rest_lost l2
   ·exact rest_lost l2
 ·simp only [e1, Option.bind_some, octets_Reader_Err, decide_eq_false l1.ne]
  rw [gd_f (by simp)]
  simp only [Option.bind_some, Bool.false_and, Bool.false_eq_true, if_false, wire_read, Number_lost l1]
  obtain ⟨y, e3⟩ := Text_lost (m := 8) l1
  simp only [e3, Option.bind_some]
  rw [if_neg (by simp)]
  exact .inr ⟨rest_lost l1, l1.1⟩
theorem Decode_whole {v : Int} {f : TField} {m : List Int} (hS : SaysP v f) (hl : (bytesF v f ++ m).length ≤ 1000000) : wire_Decode (bytesF v f ++ m) = some (if m = [] then (v, f, 0) else (0, noField, 5)) := by
 have hs : wire_Says v f = some true := by
  rw [wire_Says_eq v f (by have := hS.1.1.2.2; omega) (by rcases hS.1.2.2 with h | h; exact (by have := h.2.2.1.2.2; omega); exact (by rw [h.2.2.1]; simp)), decide_eq_true hS]
 rcases Decode_any (q := []) hS (List.append_nil _) hl with ⟨f', r', e, g⟩ | ⟨_, h⟩
 ·rcases g with ⟨rfl, g⟩ | g
  ·rw [e, fin_at g hs]
  ·exact absurd rfl g.1
 ·exact absurd rfl h
theorem Decode_cut {v : Int} {f : TField} {b q : List Int} (hS : SaysP v f) (hq : q ≠ []) (hb : b ++ q = bytesF v f) (hl : b.length ≤ 1000000) : wire_Decode b = some (0, noField, 3) := by
 rcases Decode_any (m := []) hS (by rw [hb]; simp) hl with ⟨f', r', e, g⟩ | ⟨h, _⟩
 ·rcases g with ⟨rfl, g⟩ | g
  ·have := g.b
   simp at this
   exact absurd this.2 hq
  ·rw [e, fin_lost g]
 ·exact h
theorem wire_vectors_eq (r : TRights) : wire_vectors r = some ([r.Given, r.Used] ++ r.Moved.toList) := by
 unfold wire_vectors
 have h := loopM_eq (body := wire_vectors_L1 r) (fun i s => s = ((i : Int), [r.Given, r.Used] ++ r.Moved.toList.take i)) 16 (by omega) ([r.Given, r.Used] ++ r.Moved.toList) ?_ ?_ (s0 := (0, [r.Given, r.Used])) (by simp)
 ·rw [h]; rfl
 ·rintro i s hi rfl
  refine .inl ⟨_, ?_, rfl⟩
  simp only [wire_vectors_L1, decide_eq_true (show ((i : Nat) : Int) < 16 from by omega), if_true]
  rw [fix_of hi]
  simp only [Option.bind_some]
  rw [app_of (by simp; omega)]
  simp only [Option.bind_some]
  rw [wr_succ (by omega), List.append_assoc, List.take_add_one, List.getElem?_eq_getElem (by simpa using hi)]
  simp [Vector.get]
 ·rintro s rfl
  simp [wire_vectors_L1]
  exact List.take_of_length_le (by simp)
theorem grow_nil {n : Int} (h0 : 0 ≤ n) (h : n ≤ 1000) : slices_Grow_Vec_own n = some [] := by
 unfold slices_Grow_Vec_own
 rw [if_neg (by simp; omega), letM_eq]
 have e : wr .i64 (n - wr .i64 (0 - 0)) = n := by rw [wr_id (n := 0 - 0) (by omega), wr_id (by omega)]; omega
 rw [e]
 by_cases c : 0 < n
 ·rw [if_pos (decide_eq_true c)]
  have : mkM 8 n = some () := by unfold mkM; rw [if_pos (by omega)]
  rw [this]; rfl
 ·rw [if_neg (by simpa using c)]
theorem concatV_eq {a b : List (Vector Int 16)} (ha : a.length ≤ 100) (hb : b.length ≤ 100) : slices_Concat_Vec [a, b] = some (a ++ b) := by
 unfold slices_Concat_Vec
 have g : ∀ i, i < 2 → six [a, b] ((i : Nat) : Int) = some i := fun i hi => six_of hi
 have h1 : loopM (slices_Concat_Vec_L1 [a, b]) fuel (0, 0) = some ((a.length + b.length : Nat) : Int) := by
  refine loopM_eq (body := slices_Concat_Vec_L1 [a, b]) (fun i s => s = ((i : Int), ((if i = 0 then 0 else if i = 1 then a.length else a.length + b.length : Nat) : Int))) 2 (by omega) _ ?_ ?_ rfl
  ·rintro i s hi rfl
   refine .inl ⟨_, ?_, rfl⟩
   simp only [slices_Concat_Vec_L1, decide_eq_true (show ((i : Nat) : Int) < (([a, b] : List (List (Vector Int 16))).length : Int) from by simp; omega), if_true, g i hi, Option.bind_some, letM_eq]
   rcases (show i = 0 ∨ i = 1 by omega) with rfl | rfl
   ·have e : wr .i64 (((0 : Nat) : Int) + (a.length : Int)) = (a.length : Int) := by rw [wr_id (by omega)]; omega
    simp only [if_true, List.getD_cons_zero]
    rw [e, if_neg (by simp), wr_succ (by omega)]
    rfl
   ·have e : wr .i64 ((a.length : Int) + (b.length : Int)) = ((a.length + b.length : Nat) : Int) := by rw [wr_id (by omega)]; omega
    simp only [if_true, List.getD_cons_succ, List.getD_cons_zero, show ¬ (1 = 0) from by decide, if_false]
    rw [e, if_neg (by simp; omega), wr_succ (by omega)]
    rfl
  ·rintro s rfl
   simp [slices_Concat_Vec_L1]
 rw [h1]
 simp only [Option.bind_some]
 rw [grow_nil (by omega) (by omega)]
 simp only [Option.bind_some]
 have h2 : loopM (slices_Concat_Vec_L2 [a, b]) fuel (0, []) = some (a ++ b) := by
  refine loopM_eq (body := slices_Concat_Vec_L2 [a, b]) (fun i s => s = ((i : Int), if i = 0 then [] else if i = 1 then a else a ++ b)) 2 (by omega) _ ?_ ?_ rfl
  ·rintro i s hi rfl
   refine .inl ⟨_, ?_, rfl⟩
   simp only [slices_Concat_Vec_L2, decide_eq_true (show ((i : Nat) : Int) < (([a, b] : List (List (Vector Int 16))).length : Int) from by simp; omega), if_true, g i hi, Option.bind_some]
   rcases (show i = 0 ∨ i = 1 by omega) with rfl | rfl
   ·simp only [if_true, List.getD_cons_zero]
    rw [app_of (by simp only [List.length_nil]; omega), wr_succ (by omega)]
    rfl
   ·simp only [List.getD_cons_succ, List.getD_cons_zero, show ¬ (1 = 0) from by decide, if_false, if_true]
    rw [app_of (by omega), wr_succ (by omega)]
    rfl
  ·rintro s rfl
   simp [slices_Concat_Vec_L2]
 rw [h2]; rfl
theorem putVecs {f : Int × List Int → Option ((Int × List Int) ⊕ List Int)} {vs : List (Vector Int 16)} (hv : ∀ v ∈ vs, ∀ n ∈ v.toList, IsN n) (hl : vs.length ≤ 100) {a : List Int} (ha : a.length ≤ 1000000)
  (hf : ∀ s, f s = if (decide (s.1 < (vs.length : Int))) = true then Option.bind (six vs s.1) fun j => Option.bind (wire_numbers s.2 ((vs.getD j default).toList)) fun r => some (.inl ((wr .i64 (s.1 + 1)), r)) else some (.inr s.2)) :
  loopM f fuel (0, a) = some (a ++ (vs.flatMap (·.toList)).flatMap encN) := by
 refine loopM_eq (body := f) (fun i s => s = ((i : Int), a ++ ((vs.take i).flatMap (·.toList)).flatMap encN)) vs.length (by omega) _ ?_ ?_ (by simp)
 ·rintro i s hi rfl
  refine .inl ⟨_, ?_, rfl⟩
  have hm : vs.getD i default ∈ vs := by rw [List.getD_eq_getElem?_getD, List.getElem?_eq_getElem hi]; exact List.getElem_mem hi
  have hlen : ((vs.take i).flatMap (·.toList)).length ≤ 1600 := by
   rw [List.length_flatMap]
   have : (List.map (fun v : Vector Int 16 => v.toList.length) (vs.take i)) = List.replicate (vs.take i).length 16 := by
    apply List.ext_getElem (by simp)
    intro j h1 h2; simp
   rw [this, List.sum_replicate_nat]
   simp
   omega
  have h6 := flat_len ((vs.take i).flatMap (·.toList))
  have h16 : ((vs.getD i default).toList).length = 16 := by simp
  rw [hf]
  simp only [decide_eq_true (show ((i : Nat) : Int) < (vs.length : Int) from by omega), if_true]
  rw [six_of hi]
  simp only [Option.bind_some]
  rw [wire_numbers_eq (hv _ hm) (by rw [List.length_append]; omega)]
  simp only [Option.bind_some]
  rw [wr_succ (by omega), List.append_assoc, List.take_add_one, List.flatMap_append, List.flatMap_append, List.getElem?_eq_getElem hi, List.getD_eq_getElem?_getD, List.getElem?_eq_getElem hi]
  simp
 ·rintro s rfl
  rw [hf]
  simp
theorem rvecs_eq (r : TRights) : [r.Given, r.Used] ++ r.Moved.toList = (List.range 18).map (rgk r) := by
 apply List.ext_getElem (by simp)
 intro i h1 h2
 have hi : i < 18 := by simpa using h2
 rw [List.getElem_map, List.getElem_range]
 unfold rgk
 by_cases h0 : i = 0
 ·subst h0; rfl
 ·by_cases h1' : i = 1
  ·subst h1'; rfl
  ·rw [if_neg h0, if_neg h1', dif_pos (by omega)]
   obtain ⟨j, rfl⟩ : ∃ j, i = j + 2 := ⟨i - 2, by omega⟩
   simp [Vector.get]
theorem vecs_eq (c : TCounter) : (([c.Down.Given, c.Down.Used] ++ c.Down.Moved.toList) ++ ([c.Up.Given, c.Up.Used] ++ c.Up.Moved.toList)).flatMap (·.toList) = vecs c 0 := by
 rw [rvecs_eq, rvecs_eq]
 unfold vecs
 rw [List.drop_zero, show List.range 36 = List.range 18 ++ (List.range 18).map (18 + ·) from by decide, List.flatMap_append, List.flatMap_append, List.flatMap_map, List.flatMap_map, List.flatMap_map]
 have h1 : (List.range 18).flatMap (fun a => (rgk c.Down a).toList) = (List.range 18).flatMap (fun k => (vgk c k).toList) := by
  rw [List.flatMap_def, List.flatMap_def]
  congr 1
 have h2 : (List.range 18).flatMap (fun a => (rgk c.Up a).toList) = (List.range 18).flatMap (fun k => (vgk c (18 + k)).toList) := by
  rw [List.flatMap_def, List.flatMap_def]
  congr 1
 rw [h1, h2]
theorem putHolds {f : Int × List Int → Option ((Int × List Int) ⊕ List Int)} {hs : List THold} (hv : ∀ h ∈ hs, HOk h) (hl : hs.length ≤ 100) {a : List Int} (ha : a.length ≤ 1000000)
  (hf : ∀ s, f s = if (decide (s.1 < (hs.length : Int))) = true then Option.bind (six hs s.1) fun j => Option.bind (wire_numbers s.2 (holdN (hs.getD j default))) fun r => some (.inl ((wr .i64 (s.1 + 1)), r)) else some (.inr s.2)) :
  loopM f fuel (0, a) = some (a ++ (holdsN hs).flatMap encN) := by
 refine loopM_eq (body := f) (fun i s => s = ((i : Int), a ++ (holdsN (hs.take i)).flatMap encN)) hs.length (by omega) _ ?_ ?_ (by simp [holdsN])
 ·rintro i s hi rfl
  refine .inl ⟨_, ?_, rfl⟩
  have hm : hs.getD i default ∈ hs := by rw [List.getD_eq_getElem?_getD, List.getElem?_eq_getElem hi]; exact List.getElem_mem hi
  have hlen : (holdsN (hs.take i)).length ≤ 500 := by
   unfold holdsN
   rw [List.length_flatMap]
   have : (List.map (fun v : THold => (holdN v).length) (hs.take i)) = List.replicate (hs.take i).length 5 := by
    apply List.ext_getElem (by simp)
    intro j h1 h2; simp [holdN]
   rw [this, List.sum_replicate_nat]
   simp
   omega
  have h6 := flat_len (holdsN (hs.take i))
  rw [hf]
  simp only [decide_eq_true (show ((i : Nat) : Int) < (hs.length : Int) from by omega), if_true]
  rw [six_of hi]
  simp only [Option.bind_some]
  rw [wire_numbers_eq (hold_isN (hv _ hm)) (by rw [List.length_append]; have : (holdN (hs.getD i default)).length = 5 := rfl; omega)]
  simp only [Option.bind_some]
  rw [wr_succ (by omega), List.append_assoc, List.take_add_one]
  unfold holdsN
  rw [List.flatMap_append, List.flatMap_append, List.getElem?_eq_getElem hi, List.getD_eq_getElem?_getD, List.getElem?_eq_getElem hi]
  simp
 ·rintro s rfl
  rw [hf]
  simp
theorem Encode_tail {v : Int} {f : TField} {a : List Int} (hF : FOk f) (ha : a.length ≤ 1000) :
  (if (decide (f.Kind = 2)) = true then
   Option.bind (wire_numbers a [f.Lock.Seq, f.Lock.Ver, f.Lock.Holder, f.Lock.Value]) fun r8 => some (r8, (0 : Int))
  else
   Option.bind (wire_numbers a [f.Counter.Init, f.Counter.Low, f.Counter.High]) fun r9 =>
   Option.bind (wire_vectors f.Counter.Down) fun r10 =>
   Option.bind (wire_vectors f.Counter.Up) fun r11 =>
   Option.bind (slices_Concat_Vec [r10, r11]) fun r12 =>
   Option.bind (loopM (wire_Encode_L1 r12) fuel (0, r9)) fun x15 =>
   if (decide (v = 1)) = true then some (x15, 0)
   else
    Option.bind (wire_numbers x15 [(f.Holds.length : Int)]) fun r18 =>
    Option.bind (loopM (wire_Encode_L2 f) fuel (0, r18)) fun x21 => some (x21, 0)) = some (a ++ (tailN v f).flatMap encN, 0) := by
 obtain ⟨_, _, hk⟩ := hF
 rcases hk with ⟨k1, hc, hr, _⟩ | ⟨k2, hl, _, _⟩
 ·rw [if_neg (by simp [k1])]
  have n3 : ∀ n ∈ [f.Counter.Init, f.Counter.Low, f.Counter.High], IsN n := by
   intro n hn; simp at hn; rcases hn with rfl | rfl | rfl
   ·exact hc.1
   ·exact hc.2.1
   ·exact hc.2.2.1
  rw [wire_numbers_eq n3 (by simp; omega), wire_vectors_eq, wire_vectors_eq]
  simp only [Option.bind_some]
  rw [concatV_eq (by simp) (by simp)]
  simp only [Option.bind_some]
  have hv : ∀ w ∈ ([f.Counter.Down.Given, f.Counter.Down.Used] ++ f.Counter.Down.Moved.toList) ++ ([f.Counter.Up.Given, f.Counter.Up.Used] ++ f.Counter.Up.Moved.toList), ∀ n ∈ w.toList, IsN n := by
   rw [rvecs_eq, rvecs_eq]
   intro w hw
   rcases List.mem_append.1 hw with hw | hw
   ·obtain ⟨i, hi, rfl⟩ := List.mem_map.1 hw; exact vec_isN (rgk_ok hc.2.2.2.2.2.1 (by simpa using hi))
   ·obtain ⟨i, hi, rfl⟩ := List.mem_map.1 hw; exact vec_isN (rgk_ok hc.2.2.2.2.2.2.1 (by simpa using hi))
  have l3 := flat_len [f.Counter.Init, f.Counter.Low, f.Counter.High]
  rw [putVecs (f := wire_Encode_L1 _) hv (by simp) (by rw [List.length_append]; simp only [List.length_cons, List.length_nil] at l3; omega) (fun s => rfl), vecs_eq]
  simp only [Option.bind_some]
  have hvl : (vecs f.Counter 0).length = 576 := by
   unfold vecs
   rw [List.length_flatMap, List.drop_zero]
   have : List.map (fun k => (vgk f.Counter k).toList.length) (List.range 36) = List.replicate 36 16 := by
    apply List.ext_getElem (by simp)
    intro j h1 h2
    simp only [List.getElem_map, Vector.length_toList, List.getElem_replicate]
   rw [this, List.sum_replicate_nat]
  have lv := flat_len (vecs f.Counter 0)
  by_cases c : v = 1
  ·rw [if_pos (decide_eq_true c)]
   simp [tailN, k1, c, List.flatMap_append]
  ·rw [if_neg (by simp [c])]
   have h16 := hr.2.2
   rw [wire_numbers_eq (l := [(f.Holds.length : Int)]) (by intro n hn; simp at hn; subst hn; unfold IsN; omega) (by simp only [List.length_append, List.length_cons, List.length_nil] at l3 ⊢; omega)]
   simp only [Option.bind_some]
   have l1 := flat_len [(f.Holds.length : Int)]
   rw [putHolds (f := wire_Encode_L2 f) (hs := f.Holds) hr.1 (by omega) (by simp only [List.length_append, List.length_cons, List.length_nil] at l3 l1 ⊢; omega) (fun s => rfl)]
   simp [tailN, k1, c, List.flatMap_append]
 ·rw [if_pos (decide_eq_true k2)]
  obtain ⟨h1, h2, h3, h4, h5⟩ := hl
  rw [wire_numbers_eq (by intro n hn; simp at hn; rcases hn with rfl | rfl | rfl | rfl; exact h1.2; exact h2.2; (unfold IsN; omega); exact h5) (by simp; omega)]
  simp [tailN, k2]
theorem Encode_eq (v : Int) (f : TField) (hn : f.Name.size ≤ 100) (hh : f.Holds.length ≤ 40) : wire_Encode v f = some (if SaysP v f then (bytesF v f, 0) else if FOk f then ([], 18) else ([], 1)) := by
 unfold wire_Encode
 rw [field_Right_eq _ (by omega) (by omega)]
 simp only [Option.bind_some]
 by_cases hF : FOk f
 ·rw [if_neg (by simp [hF]), wire_Says_eq v f (by omega) (by omega)]
  simp only [Option.bind_some]
  by_cases hS : SaysP v f
  ·rw [if_neg (by simp [hS]), if_pos hS]
   have hv := hS.2.1
   have hK : f.Kind = 1 ∨ f.Kind = 2 := hF.2.2.imp (·.1) (·.1)
   have h2n : ∀ n ∈ [v, f.Kind], IsN n := by
    intro n hn
    simp at hn
    unfold IsN
    rcases hn with rfl | rfl
    ·omega
    ·rcases hK with h | h <;> omega
   rw [wire_numbers_eq h2n (by simp)]
   simp only [Option.bind_some]
   have l2 := flat_len [v, f.Kind]
   rw [octets_Text_eq (by omega) (by simp only [List.length_append, List.length_cons, List.length_nil] at l2 ⊢; omega)]
   simp only [Option.bind_some]
   have lt : ([] ++ [v, f.Kind].flatMap encN ++ encN (f.Name.size : Int) ++ bytesOf f.Name).length ≤ 200 := by
    have := encN_len (f.Name.size : Int)
    simp only [List.length_append, List.length_cons, List.length_nil, bytesOf_length] at l2 ⊢; omega
   by_cases c : v = 3
   ·rw [if_pos (decide_eq_true c), wire_numbers_eq (by intro n hn; simp at hn; subst hn; exact hF.2.1.2) (by simp only [List.length_cons, List.length_nil]; omega)]
    simp only [Option.bind_some]
    have l1 := flat_len [f.Epoch]
    refine (Encode_tail (v := v) hF (by rw [List.length_append]; simp only [List.length_cons, List.length_nil] at l1; omega)).trans ?_
    simp [bytesF, c]
   ·rw [if_neg (by simp [c])]
    refine (Encode_tail (v := v) hF (by omega)).trans ?_
    simp [bytesF, c]
  ·rw [if_pos (by simp [hS]), if_neg hS, if_pos hF]
 ·rw [if_pos (by simp [hF]), if_neg (fun h => hF h.1), if_neg hF]
theorem bytesF_len {v : Int} {f : TField} (hS : SaysP v f) : (bytesF v f).length ≤ 10000 := by
 have hF := hS.1
 have t : (tailN v f).length ≤ 700 := by
  unfold tailN
  split
  ·simp
  ·have hvl : (vecs f.Counter 0).length = 576 := by
    unfold vecs
    rw [List.length_flatMap, List.drop_zero]
    have : List.map (fun k => (vgk f.Counter k).toList.length) (List.range 36) = List.replicate 36 16 := by
     apply List.ext_getElem (by simp)
     intro j h1 h2
     simp only [List.getElem_map, Vector.length_toList, List.getElem_replicate]
    rw [this, List.sum_replicate_nat]
   have hh : f.Holds.length ≤ 16 := by
    rcases hF.2.2 with h | h
    ·exact h.2.2.1.2.2
    ·rw [h.2.2.1]; simp
   have hl : (holdsN f.Holds).length = f.Holds.length * 5 := by
    unfold holdsN
    rw [List.length_flatMap]
    have : (List.map (fun v : THold => (holdN v).length) f.Holds) = List.replicate f.Holds.length 5 := by
     apply List.ext_getElem (by simp)
     intro j h1 h2
     simp only [List.getElem_map, List.getElem_replicate]
     rfl
    rw [this, List.sum_replicate_nat]
   split
   ·simp only [List.length_append, List.length_cons, List.length_nil, hvl]; omega
   ·simp only [List.length_append, List.length_cons, List.length_nil, hvl, hl]; omega
 have h1 := encN_len v
 have h2 := encN_len f.Kind
 have h3 := encN_len (f.Name.size : Int)
 have h4 := flat_len (tailN v f)
 have h5 := hF.1.2.2
 have h6 := encN_len f.Epoch
 unfold bytesF
 simp only [List.length_append, bytesOf_length]
 split <;> (try simp only [List.length_nil]) <;> omega
theorem WireCuts_true (a1 : Int) (a2 : TField) (a3 : Int) (a4 : List Int) : ul10_WireCuts a1 a2 a3 a4 = some true := by
 unfold ul10_WireCuts
 rw [Few71]
 simp only [Option.bind_some, awake10_eq, letM_eq]
 by_cases hf : (a2.Name.size ≤ 100 ∧ a2.Holds.length ≤ 40) ∧ 1 ≤ a4.length ∧ a4.length ≤ 20
 ·obtain ⟨hf, h1, h20⟩ := hf
  rw [if_neg (by simp [hf]; omega), Encode_eq _ _ hf.1 hf.2]
  simp only [Option.bind_some]
  by_cases hS : SaysP a1 a2 ∧ 0 ≤ a3 ∧ a3 < ((bytesF a1 a2).length : Int)
  ·obtain ⟨hS, c0, c1⟩ := hS
   rw [if_pos hS]
   have hl := bytesF_len hS
   rw [if_neg (by simp; omega)]
   obtain ⟨c, rfl⟩ : ∃ c : Nat, a3 = c := ⟨a3.toNat, by omega⟩
   have hc : c < (bytesF a1 a2).length := by omega
   dsimp only
   rw [ssl_pre (xs := bytesF a1 a2) (by omega)]
   simp only [Option.bind_some]
   rw [Decode_cut hS (q := (bytesF a1 a2).drop c) (by intro h; have := congrArg List.length h; simp at this; omega) (List.take_append_drop _ _) (by simp; omega)]
   simp only [Option.bind_some]
   rw [app_of (by simp; omega)]
   simp only [Option.bind_some, List.nil_append]
   rw [app_of (by omega)]
   simp only [Option.bind_some]
   rw [Decode_whole hS (by simp; omega), if_neg (by intro h; subst h; simp at h1)]
   simp [gd_t]
  ·rw [if_pos]
   by_cases h2 : SaysP a1 a2
   ·rw [if_pos h2]
    have hx : a3 < 0 ∨ ((bytesF a1 a2).length : Int) ≤ a3 := by
     rcases Int.lt_or_le a3 0 with k | k
     ·exact .inl k
     ·rcases Int.lt_or_le a3 ((bytesF a1 a2).length : Int) with k' | k'
      ·exact absurd ⟨h2, k, k'⟩ hS
      ·exact .inr k'
    simpa using hx
   ·rw [if_neg h2]
    split <;> simp
 ·rw [if_pos]
  by_cases g : a2.Name.size ≤ 100 ∧ a2.Holds.length ≤ 40
  ·simp [g]; omega
  ·simp [g]
def RN (a b : TField) : Prop := bLs a.Name b.Name = true
instance (a b : TField) : Decidable (RN a b) := by unfold RN; infer_instance
theorem RN.trans {a b c : TField} (h : RN a b) (k : RN b c) : RN a c := bLs_trans h k
def FsOk (l : List TField) : Prop := (∀ f ∈ l, FOk f) ∧ l.Pairwise RN ∧ l.length ≤ 4
instance (l : List TField) : Decidable (FsOk l) := by unfold FsOk; infer_instance
/-- Fields that may be gone through. -/
def Small (l : List TField) : Prop := l.length ≤ 1000 ∧ ∀ f ∈ l, f.Name.size ≤ 1000000 ∧ f.Holds.length ≤ 100000
theorem Small.at {l : List TField} (h : Small l) (i : Nat) : (l.getD i default).Name.size ≤ 1000000 ∧ (l.getD i default).Holds.length ≤ 100000 := by
 by_cases hi : i < l.length
 ·rw [show l.getD i default = l[i] by simp [List.getD, hi]]; exact h.2 _ (List.getElem_mem hi)
 ·rw [show l.getD i default = default by simp [List.getD, Nat.le_of_not_lt hi]]; decide
def LinkF (l : List TField) (i : Nat) : Prop := FOk (l.getD i default) ∧ (0 < i → RN (l.getD (i - 1) default) (l.getD i default))
instance (l : List TField) : DecidablePred (LinkF l) := fun i => by unfold LinkF; infer_instance
theorem obs {α β : Type} (x : α) (f : α → Option β) : Option.bind (some x) f = f x := rfl
def madeOk (e v lo hi : Int) : Prop := IsN e ∧ IsN v ∧ IsN lo ∧ IsN hi ∧ IsN (hi - lo)
instance (e v lo hi : Int) : Decidable (madeOk e v lo hi) := by unfold madeOk; infer_instance
/-- What is made of a field. -/
structure MadeOf (f : TField) (m : TField) : Prop where
 ok : FOk m
 holds : m.Holds = []
 epoch : f.Epoch < m.Epoch
 view : (viewS m).2 = 0
theorem RN.ne {a b : TField} (h : RN a b) : a.Name ≠ b.Name := fun e => by unfold RN at h; rw [e, bLs_irrefl] at h; cases h
def VB (b : Int) (v : Vector Int 16) : Prop := ∀ i, 0 ≤ at16 v i ∧ at16 v i ≤ b
structure RB (b : Int) (r : TRights) : Prop where
 given : VB b r.Given
 used : VB b r.Used
 moved : ∀ i, VB b (rowAt r i)
theorem VB.mono {b c : Int} {v : Vector Int 16} (h : VB b v) (hc : b ≤ c) : VB c v := fun i => ⟨(h i).1, by have := (h i).2; omega⟩
theorem RB.mono {b c : Int} {r : TRights} (h : RB b r) (hc : b ≤ c) : RB c r := ⟨h.given.mono hc, h.used.mono hc, fun i => (h.moved i).mono hc⟩
structure CB (b : Int) (c : TCounter) : Prop where
 init : -1000 ≤ c.Init ∧ c.Init ≤ 1000
 down : RB b c.Down
 up : RB b c.Up
theorem CB.mono {b d : Int} {c : TCounter} (h : CB b c) (hd : b ≤ d) : CB d c := ⟨h.init, h.down.mono hd, h.up.mono hd⟩
/-- Holds that are small. -/
structure HB (u : Int) (l : List THold) : Prop where
 rts : Rts l
 few_ : ∀ h ∈ l, h.Amount ≤ 3000 ∧ h.Number ≤ u
theorem HB.mono {u w : Int} {l : List THold} (h : HB u l) (hu : u ≤ w) : HB w l := ⟨h.rts, fun x hx => ⟨(h.few_ x hx).1, by have := (h.few_ x hx).2; omega⟩⟩
/-- A counter's field that is small. -/
structure LI (b u : Int) (x : TField) : Prop where
 kind : x.Kind = 1
 cb : CB b x.Counter
 hb : HB u x.Holds
theorem LI.mono {b c u w : Int} {x : TField} (h : LI b u x) (hb : b ≤ c) (hu : u ≤ w) : LI c w x := ⟨h.kind, h.cb.mono hb, h.hb.mono hu⟩
theorem LI.len {b u : Int} {x : TField} (h : LI b u x) : x.Holds.length ≤ 1000000 := by have := h.hb.rts.2.2; omega
def SmH (l : List THold) : Prop := (∀ h ∈ l, 0 ≤ h.Amount ∧ h.Amount ≤ 1073741824) ∧ l.length ≤ 40
theorem SmH.put {l : List THold} (h : SmH l) (hl : l.length ≤ 16) {X : THold} (h0 : 0 ≤ X.Amount) (h1 : X.Amount ≤ 1073741824) : SmH (putS l X) :=
 ⟨fun y hy => by
  rcases putS_mem.1 hy with rfl | hy
  ·exact ⟨h0, h1⟩
  ·exact h.1 y hy, by rw [putS_length]; omega⟩
/-- What holds of a reserve, and of its ends. -/
structure DoneR (x : TField) (k a D U : Int) (r : TField) (n : Int) : Prop where
 loose : looseS r k = (D - a, U)
 rlen : r.Holds.length ≤ 1000000
 gone : (endFd r k n 3).2 = 0
 gonel : (looseS (endFd r k n 3).1 k).1 = D
 keep : (endFd r k n 2).2 = 0
 keepl : (looseS (endFd r k n 2).1 k).1 = D - a
 view : (viewS (endFd r k n 2).1).1 = (viewS x).1 - a
 glen : (endFd r k n 3).1.Holds.length ≤ 1000000
 klen : (endFd r k n 2).1.Holds.length ≤ 1000000
theorem Small.filter {l : List TField} (h : Small l) (q : TField → Bool) : Small (l.filter q) := ⟨by have := List.length_filter_le q l; have := h.1; omega, fun f hf => h.2 f (List.mem_filter.1 hf).1⟩
theorem Small.nil : Small [] := ⟨by simp, by simp⟩
theorem RN.of {a b : TField} (h : ¬ RN a b) (n : a.Name ≠ b.Name) : RN b a := by
 unfold RN at *
 cases k : bLs b.Name a.Name with
 | true => rfl
 | false => exact (n (bLs_tri (by simpa using h) k)).elim
end Go.Av
