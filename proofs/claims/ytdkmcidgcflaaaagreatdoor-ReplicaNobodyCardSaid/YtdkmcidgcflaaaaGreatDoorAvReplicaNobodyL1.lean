/- The plain law: what the mirrors answer. -/
import Derived.Test.YtdkmcidgcflaaaaGreatDoorAvReplicaNobodyM1
set_option linter.unusedSimpArgs false
set_option linter.unusedVariables false
set_option linter.unusedSectionVars false
namespace Go.Av
theorem fuel_big : 1000000000000000 < fuel := by decide
theorem wr_id {n : Int} (h : -9223372036854775808 ≤ n ∧ n ≤ 9223372036854775807) : wr .i64 n = n := wrap_id h.1 h.2
theorem wr_succ {i : Nat} (h : i < 1000000000000000) : wr .i64 ((i : Int) + 1) = ((i + 1 : Nat) : Int) := by rw [wr_id (by omega)]; omega
theorem six_of {α : Type} {xs : List α} {i : Nat} (h : i < xs.length) : six xs (i : Int) = some i := by simp [six]; omega
theorem app_of {α : Type} {b : Nat} {xs ys : List α} (h : (xs.length + ys.length) * b ≤ 140737488355328) : app b xs ys = some (xs ++ ys) := by simp [app, h]
@[simp] theorem gd_t {α : Type} [Inhabited α] {p : Prop} [Decidable p] {m : Option α} (h : p) : gd p m = m := by simp [gd, h]
@[simp] theorem gd_f {α : Type} [Inhabited α] {p : Prop} [Decidable p] {m : Option α} (h : ¬ p) : gd p m = some default := by simp [gd, h]
@[simp] theorem letM_eq {α β : Type} (e : α) (k : α → Option β) : letM e k = k e := rfl
@[simp] theorem onS_l {α β γ : Type} (f : α → Option γ) (g : β → Option γ) (a : α) : onS f g (.inl a) = f a := rfl
@[simp] theorem onS_r {α β γ : Type} (f : α → Option γ) (g : β → Option γ) (b : β) : onS f g (.inr b) = g b := rfl
theorem fix_of {k i : Nat} (h : i < k) : fix_ k (i : Int) = some ⟨i, h⟩ := by simp [fix_]; omega

section
variable {σ ρ : Type} {body : σ → Option (σ ⊕ ρ)}
theorem loopM_ind' (I : Nat → σ → Prop) (N : Nat) (Q : ρ → Prop) (step : ∀ i s, i < N → I i s → (∃ t, body s = some (.inl t) ∧ I (i + 1) t) ∨ (∃ r, body s = some (.inr r) ∧ Q r)) (fin : ∀ s, I N s → ∃ r, body s = some (.inr r) ∧ Q r) :
  ∀ (k i : Nat) (s : σ), i + k = N → I i s → ∀ n, k < n → ∃ r, loopM body n s = some r ∧ Q r
 | k, i, s, hk, hI, 0, hn => by omega
 | 0, i, s, hk, hI, n + 1, hn => by
  obtain rfl : i = N := by omega
  obtain ⟨r, h1, h2⟩ := fin s hI
  exact ⟨r, by simp [loopM, h1], h2⟩
 | k + 1, i, s, hk, hI, n + 1, hn => by
  rcases step i s (by omega) hI with ⟨t, h1, h2⟩ | ⟨r, h1, h2⟩
  ·obtain ⟨r, h3, h4⟩ := loopM_ind' I N Q step fin k (i + 1) t (by omega) h2 n (by omega)
   exact ⟨r, by simp [loopM, h1, h3], h4⟩
  ·exact ⟨r, by simp [loopM, h1], h2⟩
theorem loopM_ind (I : Nat → σ → Prop) (N : Nat) (hN : N ≤ 1000000000000000) (Q : ρ → Prop) (step : ∀ i s, i < N → I i s → (∃ t, body s = some (.inl t) ∧ I (i + 1) t) ∨ (∃ r, body s = some (.inr r) ∧ Q r))
  (fin : ∀ s, I N s → ∃ r, body s = some (.inr r) ∧ Q r) {s0 : σ} (h0 : I 0 s0) : ∃ r, loopM body fuel s0 = some r ∧ Q r :=
 loopM_ind' I N Q step fin N 0 s0 (by omega) h0 fuel (by have := fuel_big; omega)
theorem loopM_eq (I : Nat → σ → Prop) (N : Nat) (hN : N ≤ 1000000000000000) (q : ρ) (step : ∀ i s, i < N → I i s → (∃ t, body s = some (.inl t) ∧ I (i + 1) t) ∨ (body s = some (.inr q)))
  (fin : ∀ s, I N s → body s = some (.inr q)) {s0 : σ} (h0 : I 0 s0) : loopM body fuel s0 = some q := by
 obtain ⟨r, h1, rfl⟩ := loopM_ind I N hN (fun r => r = q) (fun i s hi hI => (step i s hi hI).imp id fun h => ⟨q, h, rfl⟩) (fun s hI => ⟨q, fin s hI, rfl⟩) h0
 exact h1
end

/-- A loop over numbers that stops at the first one that is told to. -/
theorem loop_find {ρ : Type} {body : Int → Option (Int ⊕ ρ)} (N : Nat) (hN : N ≤ 1000000000000000) (bad : Nat → Option ρ) (fin : ρ) (hb : ∀ i, i < N → body (i : Int) = some (match bad i with | some r => .inr r | none => .inl (((i + 1 : Nat)) : Int)))
  (hf : body (N : Int) = some (.inr fin)) : loopM body fuel 0 = some (((List.range N).findSome? bad).getD fin) := by
 refine loopM_eq (fun i s => s = (i : Int) ∧ ∀ j, j < i → bad j = none) N hN _ ?_ ?_ ⟨rfl, fun j h => by omega⟩
 ·rintro i s hi ⟨rfl, hI⟩
  cases hbi : bad i with
  | none =>
   refine .inl ⟨_, by rw [hb i hi, hbi], rfl, fun j hj => ?_⟩
   rcases Nat.lt_succ_iff_lt_or_eq.1 hj with h | rfl
   ·exact hI j h
   ·exact hbi
  | some r =>
   refine .inr ?_
   rw [hb i hi, hbi]
   have : (List.range N).findSome? bad = some r := by
    rw [show N = i + (N - i) from by omega, List.range_add, List.findSome?_append]
    have h1 : (List.range i).findSome? bad = none := by
     rw [List.findSome?_eq_none_iff]; intro x hx; exact hI x (by simpa using hx)
    rw [h1]
    obtain ⟨m, hm⟩ : ∃ m, N - i = m + 1 := ⟨N - i - 1, by omega⟩
    rw [hm, List.range_succ_eq_map]
    simp [hbi]
   simp [this]
 ·rintro s ⟨rfl, hI⟩
  rw [hf]
  have : (List.range N).findSome? bad = none := by rw [List.findSome?_eq_none_iff]; intro x hx; exact hI x (by simpa using hx)
  simp [this]
/-- A loop over numbers that stops at the first one that is not good. -/
theorem loop_all {ρ ξ : Type} {body : Int → Option (Int ⊕ (ξ ⊕ ρ))} (N : Nat) (hN : N ≤ 1000000000000000) (good : Nat → Prop) [DecidablePred good] (r : ρ) (x : ξ)
  (hb : ∀ i, i < N → body (i : Int) = some (if good i then .inl (((i + 1 : Nat)) : Int) else .inr (.inr r))) (hf : body (N : Int) = some (.inr (.inl x))) :
  loopM body fuel 0 = some (if ∀ i, i < N → good i then .inl x else .inr r) := by
 have h := loop_find (body := body) N hN (fun i => if good i then none else some (.inr r)) (.inl x) (fun i hi => by rw [hb i hi]; by_cases h : good i <;> simp [-List.getD_eq_getElem?_getD, h]) hf
 rw [h]
 by_cases hg : ∀ i, i < N → good i
 ·have : (List.range N).findSome? (fun i => if good i then none else some (.inr r : ξ ⊕ ρ)) = none := by
   rw [List.findSome?_eq_none_iff]; intro i hi; simp [-List.getD_eq_getElem?_getD, hg i (by simpa using hi)]
  rw [this]; simp [-List.getD_eq_getElem?_getD, if_pos hg]
 ·obtain ⟨v, hv⟩ : ∃ v, (List.range N).findSome? (fun i => if good i then none else some (.inr r : ξ ⊕ ρ)) = some v := by
   cases hc : (List.range N).findSome? (fun i => if good i then none else some (.inr r : ξ ⊕ ρ)) with
   | some v => exact ⟨v, rfl⟩
   | none =>
    rw [List.findSome?_eq_none_iff] at hc
    exact (hg fun i hi => by have := hc i (by simpa using hi); by_cases h : good i; exact h; simp [-List.getD_eq_getElem?_getD, h] at this).elim
  obtain ⟨i, hi, hv2⟩ := List.exists_of_findSome?_eq_some hv
  rw [hv, if_neg hg]
  by_cases h : good i <;> simp [-List.getD_eq_getElem?_getD, h] at hv2
  simp [-List.getD_eq_getElem?_getD, hv2]

def IsN (n : Int) : Prop := -1099511627776 ≤ n ∧ n ≤ 1099511627776
instance (n : Int) : Decidable (IsN n) := by unfold IsN; infer_instance
theorem sd {b : Bool} {P : Prop} [Decidable P] (h : b = true ↔ P) : some b = some (decide P) := by rw [show b = decide P from Bool.eq_iff_iff.2 (by simpa using h)]
theorem num_Is_eq (n : Int) : num_Is n = some (decide (IsN n)) := sd (by simp [-List.getD_eq_getElem?_getD, IsN])
theorem gd_and {p b : Bool} : gd (p = true) (some b) = some (if p = true then b else false) := by cases p <;> rfl
theorem wr_pred {i : Nat} (h0 : 0 < i) (h : i < 1000000000000000) : wr .i64 ((i : Int) - 1) = ((i - 1 : Nat) : Int) := by rw [wr_id (by omega)]; omega
def Cnt (n : Int) : Prop := 0 ≤ n ∧ n ≤ 1099511627776
instance (n : Int) : Decidable (Cnt n) := by unfold Cnt; infer_instance
def HOk (h : THold) : Prop := 0 ≤ h.Replica ∧ h.Replica < 16 ∧ 1 ≤ h.Number ∧ h.Number ≤ 1099511627776 ∧ Cnt h.Amount ∧ Cnt h.Due ∧ 1 ≤ h.State ∧ h.State ≤ 3
instance (h : THold) : Decidable (HOk h) := by unfold HOk; infer_instance
theorem hold_count_eq (n : Int) : hold_count n = some (decide (Cnt n)) := by
 unfold hold_count
 rw [num_Is_eq]
 by_cases h : 0 ≤ n
 ·rw [gd_t (by simp [h])]; refine sd ?_; simp only [Bool.and_eq_true, decide_eq_true_eq]; unfold IsN Cnt; omega
 ·rw [gd_f (by simp [-List.getD_eq_getElem?_getD, h])]; refine sd ?_; simp [-List.getD_eq_getElem?_getD, h, Cnt]
theorem hold_Right_eq (h : THold) : hold_Right h = some (decide (HOk h)) := by
 unfold hold_Right
 simp only [num_Is_eq, hold_count_eq, letM_eq, gd_and, Option.bind]
 refine sd ?_
 simp only [Bool.and_eq_true, Bool.if_false_right, decide_eq_true_eq]
 first | unfold HOk IsN Cnt | unfold HOk Cnt
 omega
def HLt (a b : THold) : Prop := a.Replica < b.Replica ∨ (a.Replica = b.Replica ∧ a.Number < b.Number)
instance (a b : THold) : Decidable (HLt a b) := by unfold HLt; infer_instance
theorem HLt.trans {a b c : THold} (h : HLt a b) (k : HLt b c) : HLt a c := by unfold HLt at *; omega
theorem cmp_ge (a b : THold) : 0 ≤ holdCmp a b ↔ ¬ HLt a b := by
 unfold holdCmp HLt
 by_cases h : a.Replica = b.Replica
 ·by_cases h1 : a.Number = b.Number
  ·simp [-List.getD_eq_getElem?_getD, h, h1]
  ·by_cases h2 : a.Number < b.Number <;> simp [-List.getD_eq_getElem?_getD, h, h1, h2]
 ·by_cases h2 : a.Replica < b.Replica <;> simp [-List.getD_eq_getElem?_getD, h, h2]
def Rts (l : List THold) : Prop := (∀ h ∈ l, HOk h) ∧ l.Pairwise HLt ∧ l.length ≤ 16
instance (l : List THold) : Decidable (Rts l) := by unfold Rts; infer_instance
def Link (l : List THold) (i : Nat) : Prop := HOk (l.getD i default) ∧ (0 < i → HLt (l.getD (i - 1) default) (l.getD i default))
instance (l : List THold) : DecidablePred (Link l) := fun i => by unfold Link; infer_instance
theorem links_iff (l : List THold) : (∀ i, i < l.length → Link l i) ↔ (∀ h ∈ l, HOk h) ∧ l.Pairwise HLt := by
 constructor
 ·intro h
  refine ⟨fun x hx => ?_, ?_⟩
  ·obtain ⟨i, hi, rfl⟩ := List.getElem_of_mem hx
   simpa [List.getD, hi] using (h i hi).1
  ·rw [List.pairwise_iff_getElem]
   intro i j hi hj hij
   induction j with
   | zero => omega
   | succ j ih =>
    have h1 := (h (j + 1) hj).2 (by omega)
    have e1 : l.getD (j + 1 - 1) default = l[j] := by simp [List.getD, show j < l.length by omega]
    have e2 : l.getD (j + 1) default = l[j + 1] := by simp [List.getD, hj]
    rw [e1, e2] at h1
    rcases Nat.lt_succ_iff_lt_or_eq.1 hij with h2 | rfl
    ·exact (ih (by omega) h2).trans h1
    ·exact h1
 ·rintro ⟨h1, h2⟩ i hi
  rw [List.pairwise_iff_getElem] at h2
  refine ⟨by rw [show l.getD i default = l[i] by simp [List.getD, hi]]; exact h1 _ (List.getElem_mem hi), fun h0 => ?_⟩
  rw [show l.getD i default = l[i] by simp [List.getD, hi], show l.getD (i - 1) default = l[i - 1] by simp [List.getD, show i - 1 < l.length by omega]]
  exact h2 _ _ (by omega) hi (by omega)

theorem hold_Rights_eq (l : List THold) (hl : l.length ≤ 1000000000000000) : hold_Rights l = some (decide (Rts l)) := by
 unfold hold_Rights
 rw [loop_all l.length hl (Link l) false () (fun i hi => ?_) (by simp [-List.getD_eq_getElem?_getD, hold_Rights_L1])]
 ·by_cases h : ∀ i, i < l.length → Link l i
  ·rw [if_pos h]
   have := (links_iff l).1 h
   refine sd ?_
   simp only [Rts, this.1, this.2, true_and, decide_eq_true_eq]
   exact ⟨fun h => ⟨this.1, by omega⟩, fun h => by omega⟩
  ·rw [if_neg h]
   have : ¬ Rts l := fun h2 => h ((links_iff l).2 ⟨h2.1, h2.2.1⟩)
   simp [-List.getD_eq_getElem?_getD, this]
 ·simp only [hold_Rights_L1, hold_Right_eq, six_of hi, letM_eq, Option.bind]
  rw [if_pos (by simp; omega)]
  simp only [wr_succ (show i < 1000000000000000 by omega)]
  by_cases h1 : HOk (l.getD i default)
  ·by_cases h0 : 0 < i
   ·rw [gd_t (by simp [-List.getD_eq_getElem?_getD, h1, h0]), wr_pred h0 (by omega), six_of (by omega)]
    simp only [Option.bind]
    rw [gd_t (by simp [-List.getD_eq_getElem?_getD, h1, h0]), hold_compare_eq]
    simp only [Option.bind, cmp_ge, Link, h1, h0, true_and]
    by_cases h2 : HLt (l.getD (i - 1) default) (l.getD i default) <;> simp [-List.getD_eq_getElem?_getD, h2, h0]
   ·obtain rfl : i = 0 := by omega
    simp [-List.getD_eq_getElem?_getD, h1, Link]
  ·have : ¬ Link l i := fun h => h1 h.1
   rw [gd_f (by simp [-List.getD_eq_getElem?_getD, h1])]
   simp only [Option.bind]
   rw [gd_f (by simp [-List.getD_eq_getElem?_getD, h1])]
   simp [-List.getD_eq_getElem?_getD, h1, this]
def sumStep (r : Int) (s : Int) (h : THold) : Int := if (decide (h.Replica = r) && decide (h.State = 1)) = true then min (wr .i64 (s + h.Amount)) 1099511627776 else s
def SumS (l : List THold) (r : Int) : Int := l.foldl (sumStep r) 0
def due (r t : Int) (h : THold) : Bool := decide (h.Replica = r) && decide (h.State = 1) && decide (h.Due < t)
def exH (r t : Int) (h : THold) : THold := if due r t h = true then { h with State := 3 } else h
def isK (r n : Int) (h : THold) : Bool := decide (h.Replica = r) && decide (h.Number = n)
def EndS (l : List THold) (r n st : Int) : List THold × Int × Int :=
 if Rts l ∧ (st = 2 ∨ st = 3) then (match l.findIdx? (isK r n) with
  | none => ([], 0, 10)
  | some i => if (l.getD i default).State = 1 then (l.set i { l.getD i default with State := st }, (l.getD i default).Amount, 0) else ([], 0, 12))
 else ([], 0, 1)
def putS : List THold → THold → List THold
 | [], x => [x]
 | h :: t, x => if HLt h x then h :: putS t x else x :: h :: t
theorem putS_length (x : THold) : ∀ l : List THold, (putS l x).length = l.length + 1
 | [] => rfl
 | h :: t => by unfold putS; split <;> simp [putS_length x t]
theorem putS_perm (x : THold) : ∀ l : List THold, (putS l x).Perm (x :: l)
 | [] => .refl _
 | h :: t => by
  unfold putS
  split
  ·exact ((putS_perm x t).cons h).trans (.swap x h t)
  ·exact .refl _
theorem putS_mem {x y : THold} {l : List THold} : y ∈ putS l x ↔ y = x ∨ y ∈ l := by rw [(putS_perm x l).mem_iff, List.mem_cons]
/-- Another key. -/
def Off (h x : THold) : Prop := ¬ (h.Replica = x.Replica ∧ h.Number = x.Number)
theorem HLt.off {a b : THold} (h : HLt a b) : Off a b ∧ Off b a := by unfold HLt Off at *; omega
def val (r : Int) (h : THold) : Int := if h.Replica = r ∧ h.State = 1 then h.Amount else 0
def bump (x h : THold) : THold := { x with State := max x.State h.State }
def upd (l : List THold) (h : THold) : List THold := l.map fun x => if isK h.Replica h.Number x = true then bump x h else x
def fits (x h : THold) : Prop := x.Amount = h.Amount ∧ x.Due = h.Due
instance (x h : THold) : Decidable (fits x h) := by unfold fits; infer_instance
def lookH (l : List THold) (r n : Int) : Option THold := l.find? (isK r n)
def jstep (ins : List THold → THold → List THold) (m : List THold) (h : THold) : Option (List THold) :=
 match lookH m h.Replica h.Number with
 | none => some (ins m h)
 | some x => if fits x h then some (upd m h) else none

theorem isK_iff {r n : Int} {x : THold} : isK r n x = true ↔ x.Replica = r ∧ x.Number = n := by simp [isK]
theorem Off.symm {a b : THold} (h : Off a b) : Off b a := by unfold Off at *; omega
theorem lookH_none {l : List THold} {r n : Int} : lookH l r n = none ↔ ∀ x ∈ l, ¬ (x.Replica = r ∧ x.Number = n) := by
 rw [lookH, List.find?_eq_none]
 exact ⟨fun h x hx hk => h x hx (isK_iff.2 hk), fun h x hx hk => h x hx (isK_iff.1 hk)⟩
theorem upd_off {l : List THold} (h : THold) (ho : l.Pairwise Off) : (upd l h).Pairwise Off := by
 unfold upd
 rw [List.pairwise_map]
 refine ho.imp fun {a b} k => ?_
 unfold Off at *
 split <;> split <;> exact k
theorem upd_key (s : List THold) (h : THold) (j : Nat) : ((upd s h).getD j default).Replica = (s.getD j default).Replica ∧ ((upd s h).getD j default).Number = (s.getD j default).Number := by
 unfold upd
 rw [List.getD, List.getD, List.getElem?_map]
 cases s[j]? with
 | none => exact ⟨rfl, rfl⟩
 | some x => simp only [Option.map_some, Option.getD_some]; split <;> exact ⟨rfl, rfl⟩
def InvJ (a b : List THold) (i : Nat) (s : List THold) : Prop :=
 s.Pairwise Off ∧ a.length ≤ s.length ∧ s.length ≤ a.length + i ∧ (∀ j, j < a.length → (s.getD j default).Replica = (a.getD j default).Replica ∧ (s.getD j default).Number = (a.getD j default).Number) ∧
  ∀ j, a.length ≤ j → j < s.length → ∃ q, q < i ∧ (s.getD j default).Replica = (b.getD q default).Replica ∧ (s.getD j default).Number = (b.getD q default).Number

theorem InvJ.step {a b s s' : List THold} {i : Nat} (hJ : InvJ a b i s) (hi : i < b.length) (hs : jstep (fun l h => l ++ [h]) s (b.getD i default) = some s') : InvJ a b (i + 1) s' := by
 obtain ⟨h1, h2, h3, h4, h5⟩ := hJ
 unfold jstep at hs
 cases hl : lookH s (b.getD i default).Replica (b.getD i default).Number with
 | none =>
  rw [hl] at hs; simp only [Option.some.injEq] at hs; subst hs
  have hn := lookH_none.1 hl
  refine ⟨?_, by simp; omega, by simp; omega, fun j hj => ?_, fun j hj hj2 => ?_⟩
  ·rw [List.pairwise_append]
   refine ⟨h1, by simp, fun x hx y hy => ?_⟩
   rw [List.mem_singleton.1 hy]
   exact fun k => hn x hx k
  ·rw [show (s ++ [b.getD i default]).getD j default = s.getD j default by rw [List.getD, List.getElem?_append_left (by omega)]; rfl]
   exact h4 j hj
  ·by_cases hj3 : j < s.length
   ·rw [show (s ++ [b.getD i default]).getD j default = s.getD j default by rw [List.getD, List.getElem?_append_left hj3]; rfl]
    obtain ⟨q, h6, h7⟩ := h5 j hj hj3
    exact ⟨q, by omega, h7⟩
   ·simp only [List.length_append, List.length_singleton] at hj2
    obtain rfl : j = s.length := by omega
    rw [show (s ++ [b.getD i default]).getD s.length default = b.getD i default by rw [List.getD, List.getElem?_append_right (Nat.le_refl _), Nat.sub_self]; rfl]
    exact ⟨i, by omega, rfl, rfl⟩
 | some x =>
  rw [hl] at hs; simp only at hs
  split at hs
  ·simp only [Option.some.injEq] at hs; subst hs
   have hle : (upd s (b.getD i default)).length = s.length := by simp only [upd, List.length_map]
   refine ⟨upd_off _ h1, by omega, by omega, fun j hj => ?_, fun j hj hj2 => ?_⟩
   ·rw [(upd_key s _ j).1, (upd_key s _ j).2]; exact h4 j hj
   ·obtain ⟨q, h6, h7⟩ := h5 j hj (by omega)
    exact ⟨q, by omega, by rw [(upd_key s _ j).1, (upd_key s _ j).2]; exact h7⟩
  ·cases hs
theorem fits.symm {x y : THold} (h : fits x y) : fits y x := ⟨h.1.symm, h.2.symm⟩
theorem checked_eq (a : Int) (l : List Int) (hl : l.length ≤ 1000000000000) : num_checked a l = some (if ∀ x ∈ l ++ [a], IsN x then (a, 0) else (0, 2)) := by
 unfold num_checked
 rw [app_of (by simp; omega)]
 simp only [Option.bind]
 have hn : (l ++ [a]).length ≤ 1000000000000000 := by simp; omega
 generalize l ++ [a] = m at hn
 rw [loop_all m.length hn (fun i => IsN (m.getD i default)) (0, 2) () (fun i hi => ?_) (by simp [num_checked_L1])]
 ·by_cases h : ∀ x ∈ m, IsN x
  ·rw [if_pos (fun i hi => h _ (by simp [List.getD, hi])), if_pos h]; rfl
  ·rw [if_neg (fun h2 => h fun x hx => by obtain ⟨i, hi, rfl⟩ := List.getElem_of_mem hx; simpa [List.getD, hi] using h2 i hi), if_neg h]; rfl
 ·simp only [num_checked_L1, six_of hi, num_Is_eq, Option.bind]
  rw [if_pos (by simp; omega)]
  simp only [wr_succ (show i < 1000000000000000 by omega)]
  by_cases h : IsN (m.getD i default)
  ·rw [if_neg (by rw [decide_eq_true h]; decide), if_pos h]
  ·rw [if_pos (by rw [decide_eq_false h]; rfl), if_neg h]

def addS (a b : Int) : Int × Int := if IsN a ∧ IsN b ∧ IsN (a + b) then (a + b, 0) else (0, 2)
theorem num_Add_eq (a b : Int) : num_Add a b = some (addS a b) := by
 unfold num_Add addS
 rw [checked_eq _ _ (by simp)]
 simp only [Option.bind]
 by_cases h : IsN a ∧ IsN b
 ·have hw : wr .i64 (a + b) = a + b := wr_id (by unfold IsN at h; omega)
  rw [hw]
  by_cases h2 : IsN (a + b)
  ·rw [if_pos (by simp [h.1, h.2, h2]), if_pos ⟨h.1, h.2, h2⟩]
  ·rw [if_neg (by simp [h.1, h.2, h2]), if_neg (fun x => h2 x.2.2)]
 ·rw [if_neg (fun x => h ⟨x a (by simp), x b (by simp)⟩), if_neg (fun x => h ⟨x.1, x.2.1⟩)]
/-- All, added; none, if it is too great on the way. -/
def sumO : Int → List Int → Option Int
 | n, [] => some n
 | n, x :: t => if (addS n x).2 = 0 then sumO (addS n x).1 t else none
def sumS (l : List Int) : Int × Int := match sumO 0 l with | some n => (n, 0) | none => (0, 2)
theorem addS_err (a b : Int) (h : (addS a b).2 ≠ 0) : (addS a b).2 = 2 := by
 by_cases hc : IsN a ∧ IsN b ∧ IsN (a + b)
 ·rw [addS, if_pos hc] at h; exact (h rfl).elim
 ·rw [addS, if_neg hc]
theorem sum_loop' (l : List Int) {ρ : Type} {body : Int × Int → Option ((Int × Int) ⊕ ρ)} (fin : Int → Option ρ) (er : Option ρ)
  (hb : ∀ (i : Nat) (n : Int), i < l.length → body ((i : Int), n) = if (addS n (l.getD i default)).2 = 0 then some (.inl ((((i + 1 : Nat)) : Int), (addS n (l.getD i default)).1)) else er.map .inr) (hf : ∀ n, body ((l.length : Int), n) = (fin n).map .inr) :
  ∀ (k i : Nat) (n : Int), i + k = l.length → ∀ m, k < m → loopM body m ((i : Int), n) = match sumO n (l.drop i) with | some n => fin n | none => er
 | k, i, n, hk, 0, hm => by omega
 | 0, i, n, hk, m + 1, hm => by
  obtain rfl : i = l.length := by omega
  rw [List.drop_length]
  simp only [loopM, hf, sumO]
  cases fin n <;> rfl
 | k + 1, i, n, hk, m + 1, hm => by
  have hi : i < l.length := by omega
  have hd : l.drop i = l.getD i default :: l.drop (i + 1) := by rw [List.drop_eq_getElem_cons hi]; simp [List.getD, hi]
  rw [hd, sumO]
  simp only [loopM, hb i n hi]
  by_cases h : (addS n (l.getD i default)).2 = 0
  ·rw [if_pos h, if_pos h]
   exact sum_loop' l fin er hb hf k (i + 1) _ (by omega) m (by omega)
  ·rw [if_neg h, if_neg h]
   cases er <;> rfl
theorem sum_loop (l : List Int) (hl : l.length ≤ 1000000000000) {ρ : Type} {body : Int × Int → Option ((Int × Int) ⊕ ρ)} (fin : Int → Option ρ) (er : Option ρ)
  (hb : ∀ (i : Nat) (n : Int), i < l.length → body ((i : Int), n) = if (addS n (l.getD i default)).2 = 0 then some (.inl ((((i + 1 : Nat)) : Int), (addS n (l.getD i default)).1)) else er.map .inr) (hf : ∀ n, body ((l.length : Int), n) = (fin n).map .inr) :
  loopM body fuel (0, 0) = match sumO 0 l with | some n => fin n | none => er :=
 sum_loop' l fin er hb hf l.length 0 0 (by omega) fuel (by have := fuel_big; omega)
theorem num_Sum_eq (l : List Int) (hl : l.length ≤ 1000000000000) : num_Sum l = some (sumS l) := by
 have h1 : num_Sum_1 l = sumO 0 l := by
  unfold num_Sum_1
  rw [sum_loop l hl (fun n => some n) none (fun i n hi => ?_) (fun n => by simp [num_Sum_1_L1])]
  ·cases sumO 0 l <;> rfl
  ·simp only [num_Sum_1_L1, six_of hi, num_Add_eq, num_Must, Option.bind]
   rw [if_pos (by simp; omega)]
   simp only [wr_succ (show i < 1000000000000000 by omega)]
   by_cases h : (addS n (l.getD i default)).2 = 0
   ·rw [if_neg (by rw [decide_eq_true h]; decide), if_pos h]
   ·rw [if_pos (by rw [decide_eq_false h]; rfl), if_neg h]; rfl
 have h2 : num_Sum_P l = match sumO 0 l with | some _ => none | none => some 2 := by
  unfold num_Sum_P
  rw [sum_loop l hl (fun n => none) (some 2) (fun i n hi => ?_) (fun n => by simp [num_Sum_P_L1])]
  simp only [num_Sum_P_L1, six_of hi, num_Add_eq, Option.bind]
  rw [if_pos (by simp; omega)]
  simp only [wr_succ (show i < 1000000000000000 by omega)]
  by_cases h : (addS n (l.getD i default)).2 = 0
  ·rw [if_pos (by rw [decide_eq_true h]), if_pos h]
  ·rw [if_neg (by rw [decide_eq_false h]; decide), if_neg h, addS_err _ _ h]; rfl
 unfold num_Sum sumS
 rw [h1, h2]
 cases sumO 0 l <;> rfl
def VOk (v : Vector Int 16) : Prop := ∀ k : Fin 16, 0 ≤ v.get k ∧ v.get k ≤ 1099511627776
instance (v : Vector Int 16) : Decidable (VOk v) := by unfold VOk; infer_instance
def at16 (v : Vector Int 16) (i : Nat) : Int := if h : i < 16 then v.get ⟨i, h⟩ else 0
theorem VOk_iff (v : Vector Int 16) : (∀ i, i < 16 → 0 ≤ at16 v i ∧ at16 v i ≤ 1099511627776) ↔ VOk v := by
 constructor
 ·intro h k
  have := h k.1 k.2
  unfold at16 at this
  rw [dif_pos k.2] at this
  exact this
 ·intro h i hi
  unfold at16
  rw [dif_pos hi]
  exact h ⟨i, hi⟩
def ROk (r : TRights) : Prop := VOk r.Given ∧ VOk r.Used ∧ ∀ k : Fin 16, VOk (r.Moved.get k) ∧ (r.Moved.get k).get k = 0
instance (r : TRights) : Decidable (ROk r) := by unfold ROk; infer_instance
def row (r : TRights) (i : Nat) : Prop := ∀ h : i < 16, VOk (r.Moved.get ⟨i, h⟩) ∧ (r.Moved.get ⟨i, h⟩).get ⟨i, h⟩ = 0
instance (r : TRights) (i : Nat) : Decidable (row r i) := by unfold row; infer_instance
/-- What was given is what must be. -/
def gives (g u : Vector Int 16) (room : Int) : Prop := (sumS g.toList).2 = 0 ∧ (sumS u.toList).2 = 0 ∧ (addS room (sumS u.toList).1).2 = 0 ∧ (sumS g.toList).1 = (addS room (sumS u.toList).1).1
instance (g u : Vector Int 16) (room : Int) : Decidable (gives g u room) := by unfold gives; infer_instance
def COk (c : TCounter) : Prop := IsN c.Init ∧ IsN c.Low ∧ IsN c.High ∧ c.Low ≤ c.Init ∧ c.Init ≤ c.High ∧ ROk c.Down ∧ ROk c.Up ∧ gives c.Down.Given c.Up.Used (c.Init - c.Low) ∧ gives c.Up.Given c.Down.Used (c.High - c.Init)
instance (c : TCounter) : Decidable (COk c) := by unfold COk; infer_instance
theorem gd_nb {p : Prop} [Decidable p] {b : Bool} : gd p (some b) = some (if p then b else false) := by by_cases h : p <;> simp [gd, h]
def negs (v : Vector Int 16) : List Int := (List.range 16).map fun i => wr .i64 (0 - at16 v i)
def valL (c : TCounter) : List Int := [c.Init] ++ c.Up.Used.toList ++ negs c.Down.Used
def rowAt (r : TRights) (i : Nat) : Vector Int 16 := if h : i < 16 then r.Moved.get ⟨i, h⟩ else default
def freeL (r : TRights) (k : Nat) : List Int := [at16 r.Given k] ++ (List.range 16).map (fun i => at16 (rowAt r i) k) ++ [wr .i64 (0 - at16 r.Used k)] ++ negs (rowAt r k)
def freeS (r : TRights) (k : Int) : Int × Int := if 0 ≤ k ∧ k < 16 then sumS (freeL r k.toNat) else (0, 1)
theorem vec_Right_eq (v : Vector Int 16) : vec_Right v = some (decide (VOk v)) := by
 unfold vec_Right
 rw [loop_all 16 (by omega) (fun i => 0 ≤ at16 v i ∧ at16 v i ≤ 1099511627776) false () (fun i hi => ?_) (by simp [vec_Right_L1])]
 ·by_cases h : VOk v
  ·rw [if_pos ((VOk_iff v).2 h), decide_eq_true h]; rfl
  ·rw [if_neg (fun k => h ((VOk_iff v).1 k)), decide_eq_false h]; rfl
 ·have e : at16 v i = v.get ⟨i, hi⟩ := by unfold at16; rw [dif_pos hi]
  simp only [vec_Right_L1, fix_of hi, num_Is_eq, Option.bind, e]
  rw [if_pos (by simp; omega)]
  simp only [wr_succ (show i < 1000000000000000 by omega)]
  by_cases h1 : v.get ⟨i, hi⟩ < 0
  ·rw [gd_f (by rw [decide_eq_true h1]; decide)]
   simp only []
   rw [if_pos (by rw [decide_eq_true h1]; rfl), if_neg (by omega)]
  ·rw [gd_t (by rw [decide_eq_false h1])]
   simp only []
   by_cases h2 : IsN (v.get ⟨i, hi⟩)
   ·rw [if_neg (by rw [decide_eq_false h1, decide_eq_true h2]; decide), if_pos (by unfold IsN at h2; omega)]
   ·rw [if_pos (by rw [decide_eq_false h2]; simp), if_neg (by unfold IsN at h2; omega)]
theorem rights_Right_eq (r : TRights) : rights_Right r = some (decide (ROk r)) := by
 unfold rights_Right
 rw [vec_Right_eq, vec_Right_eq]
 simp only [Option.bind, gd_nb]
 by_cases h : VOk r.Given ∧ VOk r.Used
 ·rw [if_neg (by simp [h.1, h.2])]
  rw [loop_all 16 (by omega) (row r) false () (fun i hi => ?_) (by simp [rights_Right_L1])]
  ·have hrows : (∀ i : Nat, i < 16 → row r i) ↔ ∀ k : Fin 16, VOk (r.Moved.get k) ∧ (r.Moved.get k).get k = 0 :=
    ⟨fun h k => h k.1 k.2 k.2, fun h i hi _ => h ⟨i, hi⟩⟩
   by_cases h2 : ∀ i : Nat, i < 16 → row r i
   ·rw [if_pos h2, decide_eq_true (show ROk r from ⟨h.1, h.2, hrows.1 h2⟩)]; rfl
   ·rw [if_neg h2, decide_eq_false (show ¬ ROk r from fun k => h2 (hrows.2 k.2.2))]; rfl
  ·have hrow : row r i ↔ VOk (r.Moved.get ⟨i, hi⟩) ∧ (r.Moved.get ⟨i, hi⟩).get ⟨i, hi⟩ = 0 := ⟨fun h => h hi, fun h _ => h⟩
   simp only [rights_Right_L1, fix_of hi, vec_Right_eq, letM_eq, Option.bind]
   rw [if_pos (by simp; omega)]
   simp only [wr_succ (show i < 1000000000000000 by omega)]
   by_cases h1 : VOk (r.Moved.get ⟨i, hi⟩)
   ·rw [gd_t (by rw [decide_eq_true h1]; rfl)]
    simp only []
    by_cases h2 : (r.Moved.get ⟨i, hi⟩).get ⟨i, hi⟩ = 0
    ·rw [if_neg (by rw [decide_eq_true h1, decide_eq_true h2]; decide), if_pos (hrow.2 ⟨h1, h2⟩)]
    ·rw [if_pos (by rw [decide_eq_false h2]; simp), if_neg (fun k => h2 (hrow.1 k).2)]
   ·rw [gd_f (by rw [decide_eq_false h1]; decide)]
    simp only []
    rw [if_pos (by rw [decide_eq_false h1]; rfl), if_neg (fun k => h1 (hrow.1 k).1)]
 ·have hn : ¬ ROk r := fun k => h ⟨k.1, k.2.1⟩
  rw [if_pos, decide_eq_false hn]
  by_cases h1 : VOk r.Given <;> by_cases h2 : VOk r.Used <;> simp [h1, h2]
  exact h ⟨h1, h2⟩
def bAt (s : ByteArray) (i : Nat) : Int := (bix s (i : Int)).getD 0
theorem bix_of {s : ByteArray} {i : Nat} (h : i < s.size) : bix s (i : Int) = some (bAt s i) := by
 unfold bAt bix
 rw [dif_pos (by omega)]
 rfl
def NameOk (s : ByteArray) : Prop := (∀ i : Nat, i < s.size → 33 ≤ bAt s i ∧ bAt s i ≤ 126) ∧ 1 ≤ s.size ∧ s.size ≤ 8
instance (s : ByteArray) : Decidable (NameOk s) := by unfold NameOk; infer_instance
theorem field_Name_eq (s : ByteArray) (hs : s.size ≤ 1000000000000000) : field_Name s = some (decide (NameOk s)) := by
 unfold field_Name
 rw [loop_all s.size hs (fun i => 33 ≤ bAt s i ∧ bAt s i ≤ 126) false () (fun i hi => ?_) (by simp [field_Name_L1])]
 ·by_cases h : ∀ i : Nat, i < s.size → 33 ≤ bAt s i ∧ bAt s i ≤ 126
  ·rw [if_pos h]
   refine sd ?_
   simp only [NameOk, Bool.and_eq_true, decide_eq_true_eq]
   exact ⟨fun k => ⟨h, by omega, by omega⟩, fun k => ⟨by omega, by omega⟩⟩
  ·rw [if_neg h, decide_eq_false (p := NameOk s) (fun k => h k.1)]; rfl
 ·simp only [field_Name_L1, bix_of hi, Option.bind]
  rw [if_pos (by simp; omega)]
  simp only [wr_succ (show i < 1000000000000000 by omega)]
  by_cases h1 : bAt s i < 33
  ·rw [gd_f (by rw [decide_eq_true h1]; decide)]
   simp only []
   rw [if_pos (by rw [decide_eq_true h1]; rfl), if_neg (by omega)]
  ·rw [gd_t (by rw [decide_eq_false h1])]
   simp only []
   by_cases h2 : 126 < bAt s i
   ·rw [if_pos (by rw [decide_eq_true h2]; simp), if_neg (by omega)]
   ·rw [if_neg (by rw [decide_eq_false h1, decide_eq_false h2]; decide), if_pos (by omega)]

def cnt (x : Int) : Prop := 0 ≤ x ∧ IsN x
instance (x : Int) : Decidable (cnt x) := by unfold cnt; infer_instance
def LOk (l : TLock) : Prop := cnt l.Seq ∧ cnt l.Ver ∧ 0 ≤ l.Holder ∧ l.Holder ≤ 15 ∧ IsN l.Value
instance (l : TLock) : Decidable (LOk l) := by unfold LOk; infer_instance
def zeroC : TCounter := ⟨0, 0, 0, default, default⟩
def zeroL : TLock := ⟨0, 0, 0, 0⟩
def FOk (f : TField) : Prop := NameOk f.Name ∧ cnt f.Epoch ∧ ((f.Kind = 1 ∧ COk f.Counter ∧ Rts f.Holds ∧ f.Lock = zeroL) ∨ (f.Kind = 2 ∧ LOk f.Lock ∧ f.Holds = [] ∧ f.Counter = zeroC))
instance (f : TField) : Decidable (FOk f) := by unfold FOk; infer_instance
def only (d : Int) : Vector Int 16 := (default : Vector Int 16).set 0 d
def newC (i l h : Int) : TCounter := ⟨i, l, h, ⟨only (i - l), default, default⟩, ⟨only (h - i), default, default⟩⟩
def NewOk (i l h : Int) : Prop := IsN i ∧ IsN l ∧ IsN h ∧ l ≤ i ∧ i ≤ h ∧ IsN (h - l)
instance (i l h : Int) : Decidable (NewOk i l h) := by unfold NewOk; infer_instance
def LNewOk (k v : Int) : Prop := (0 ≤ k ∧ k < 16) ∧ IsN v
instance (k v : Int) : Decidable (LNewOk k v) := by unfold LNewOk; infer_instance
def set16 (v : Vector Int 16) (i : Nat) (x : Int) : Vector Int 16 := if h : i < 16 then v.set i x h else v
def setRow (m : Vector (Vector Int 16) 16) (i : Nat) (x : Vector Int 16) : Vector (Vector Int 16) 16 := if h : i < 16 then m.set i x h else m
def growS (v : Vector Int 16) (k n : Int) : Vector Int 16 × Int :=
 if 0 ≤ k ∧ k < 16 ∧ 0 ≤ n then (if (addS (at16 v k.toNat) n).2 = 0 then (set16 v k.toNat (addS (at16 v k.toNat) n).1, 0) else (default, (addS (at16 v k.toNat) n).2)) else (default, 1)
def giveS (r : TRights) (k n : Int) : TRights × Int := if (growS r.Given k n).2 = 0 then ({ r with Given := (growS r.Given k n).1 }, 0) else (default, (growS r.Given k n).2)
def enoughS (r : TRights) (k n : Int) : Int := if n < 0 then 1 else if (freeS r k).2 = 0 then (if (freeS r k).1 < n then 8 else 0) else (freeS r k).2
def useS (r : TRights) (k n : Int) : TRights × Int :=
 if enoughS r k n = 0 then (if (growS r.Used k n).2 = 0 then ({ r with Used := (growS r.Used k n).1 }, 0) else (default, (growS r.Used k n).2)) else (default, enoughS r k n)
def decS (c : TCounter) (k n : Int) : TCounter × Int :=
 if (useS c.Down k n).2 = 0 then (if (giveS c.Up k n).2 = 0 then ({ c with Down := (useS c.Down k n).1, Up := (giveS c.Up k n).1 }, 0) else (default, (giveS c.Up k n).2)) else (default, (useS c.Down k n).2)
theorem vec_Sum_eq (v : Vector Int 16) : vec_Sum v = some (sumS v.toList) := by
 unfold vec_Sum
 rw [num_Sum_eq _ (by simp)]; rfl
theorem counter_given_eq (a b : TRights) (room : Int) : counter_given a b room = some (decide (gives a.Given b.Used room)) := by
 unfold counter_given
 simp only [vec_Sum_eq, num_Add_eq, Option.bind, letM_eq]
 refine sd ?_
 simp only [Bool.and_eq_true, decide_eq_true_eq, and_assoc]
 exact Iff.rfl
theorem counter_Right_eq (c : TCounter) : counter_Right c = some (decide (COk c)) := by
 unfold counter_Right
 simp only [num_Is_eq, rights_Right_eq, counter_given_eq, Option.bind, gd_nb, letM_eq]
 by_cases h : IsN c.Init ∧ IsN c.Low ∧ IsN c.High ∧ c.Low ≤ c.Init ∧ c.Init ≤ c.High
 ·obtain ⟨h1, h2, h3, h4, h5⟩ := h
  have w1 : wr .i64 (c.Init - c.Low) = c.Init - c.Low := wr_id (by unfold IsN at *; omega)
  have w2 : wr .i64 (c.High - c.Init) = c.High - c.Init := wr_id (by unfold IsN at *; omega)
  rw [if_neg (by simp [h1, h2, h3]; omega), w1, w2]
  refine sd ?_
  simp only [Bool.and_eq_true, decide_eq_true_eq, Bool.if_false_right]
  unfold COk
  constructor
  ·rintro ⟨⟨⟨a, b⟩, _, d⟩, e⟩
   simp_all
  ·rintro ⟨_, _, _, _, _, a, b, d, e⟩
   simp_all
 ·have hn : ¬ COk c := fun k => h ⟨k.1, k.2.1, k.2.2.1, k.2.2.2.1, k.2.2.2.2.1⟩
  rw [if_pos, decide_eq_false hn]
  by_cases h1 : IsN c.Init <;> by_cases h2 : IsN c.Low <;> by_cases h3 : IsN c.High <;> by_cases h4 : c.Init < c.Low <;> by_cases h5 : c.High < c.Init <;> simp [h1, h2, h3, h4, h5]
  exact h ⟨h1, h2, h3, by omega, by omega⟩
theorem lock_Right_eq (l : TLock) : lock_Right l = some (decide (LOk l)) := by
 have h1 : ∀ n, lock_Right_1 n = some (decide (cnt n)) := fun n => by
  unfold lock_Right_1
  simp only [num_Is_eq, Option.bind, gd_nb, letM_eq]
  refine sd ?_
  simp only [Bool.and_eq_true, decide_eq_true_eq, Bool.if_false_right]
  unfold cnt
  constructor
  ·rintro ⟨a, _, b⟩; exact ⟨a, b⟩
  ·rintro ⟨a, b⟩; exact ⟨a, a, b⟩
 have h2 : ∀ k, lock_is k = some (decide (0 ≤ k ∧ k < 16)) := fun k => sd (by simp)
 unfold lock_Right
 simp only [h1, h2, num_Is_eq, Option.bind, gd_nb, letM_eq]
 refine sd ?_
 simp only [Bool.and_eq_true, decide_eq_true_eq, Bool.if_false_right]
 unfold LOk
 constructor
 ·rintro ⟨⟨⟨a, _, b⟩, _, d⟩, e⟩
  have e2 := e.2
  exact ⟨a, b, d.1, by omega, e2⟩
 ·rintro ⟨a, b, d, e, f⟩
  have e2 : l.Holder < 16 := by omega
  simp [a, b, d, e2, f]
theorem field_Right_eq (f : TField) (hs : f.Name.size ≤ 1000000000000000) (hh : f.Holds.length ≤ 1000000000000) : field_Right f = some (decide (FOk f)) := by
 unfold field_Right
 simp only [field_Name_eq _ hs, num_Is_eq, Option.bind, gd_nb, letM_eq, counter_Right_eq, hold_Rights_eq f.Holds (by omega), lock_Right_eq]
 by_cases h : NameOk f.Name ∧ cnt f.Epoch
 ·obtain ⟨h1, h2⟩ := h
  have h3 : ¬ f.Epoch < 0 := by unfold cnt at h2; omega
  rw [if_neg (by simp [h1, h2.2, h3])]
  by_cases hk : f.Kind = 1
  ·rw [if_pos (by simp [hk])]
   refine sd ?_
   simp only [Bool.and_eq_true, decide_eq_true_eq, Bool.if_false_right]
   unfold FOk
   constructor
   ·rintro ⟨⟨a, b, c⟩, d⟩
    exact ⟨h1, h2, .inl ⟨hk, a, c, d⟩⟩
   ·rintro ⟨_, _, ⟨_, a, b, c⟩ | ⟨a, _⟩⟩
    ·exact ⟨⟨a, a, b⟩, c⟩
    ·omega
  ·rw [if_neg (by simp [hk])]
   have hz : ((f.Holds.length : Int) = 0) ↔ f.Holds = [] := by
    rw [← List.length_eq_zero_iff]; omega
   by_cases hk2 : f.Kind = 2
   ·rw [if_pos (by simp [hk2])]
    refine sd ?_
    simp only [Bool.and_eq_true, decide_eq_true_eq, Bool.if_false_right]
    unfold FOk
    rw [hz]
    constructor
    ·rintro ⟨⟨a, b⟩, d⟩
     exact ⟨h1, h2, .inr ⟨hk2, a, b, d⟩⟩
    ·rintro ⟨_, _, ⟨a, _⟩ | ⟨a, b, c, d⟩⟩
     ·omega
     ·exact ⟨⟨b, c⟩, d⟩
   ·rw [if_neg (by simp [hk2]), decide_eq_false]
    rintro ⟨_, _, ⟨a, _⟩ | ⟨a, _⟩⟩ <;> contradiction
 ·have hn : ¬ FOk f := fun k => h ⟨k.1, k.2.1⟩
  rw [if_pos, decide_eq_false hn]
  by_cases h1 : NameOk f.Name <;> by_cases h2 : f.Epoch < 0 <;> by_cases h3 : IsN f.Epoch <;> simp [h1, h2, h3]
  exact h ⟨h1, by unfold cnt; exact ⟨by omega, h3⟩⟩

def viewS (f : TField) : Int × Int := if f.Kind = 1 then sumS (valL f.Counter) else if f.Kind = 2 then (f.Lock.Value, 0) else (0, 17)
def looseS (f : TField) (k : Int) : Int × Int := if f.Kind = 1 then (wr .i64 ((freeS f.Counter.Down k).1 - SumS f.Holds k), (freeS f.Counter.Up k).1) else (0, 0)
theorem Few7_eq (ls : List TField) (hl : ls.length ≤ 1000000000000000) : ul07_Few ls = some (decide (∀ f ∈ ls, f.Name.size ≤ 100 ∧ f.Holds.length ≤ 40)) := by
 unfold ul07_Few
 rw [loop_all ls.length hl (fun i => (ls.getD i default).Name.size ≤ 100 ∧ (ls.getD i default).Holds.length ≤ 40) false () (fun i hi => ?_) (by simp [-List.getD_eq_getElem?_getD, ul07_Few_L1])]
 ·by_cases h : ∀ f ∈ ls, f.Name.size ≤ 100 ∧ f.Holds.length ≤ 40
  ·rw [if_pos (fun i hi => h _ (by simp [List.getD, hi]))]
   rw [decide_eq_true h]; rfl
  ·rw [if_neg (fun h2 => h fun f hx => by obtain ⟨i, hi, rfl⟩ := List.getElem_of_mem hx; simpa [List.getD, hi] using h2 i hi)]
   rw [decide_eq_false h]; rfl
 ·simp only [ul07_Few_L1, six_of hi, letM_eq, Option.bind]
  rw [if_pos (by simp; omega)]
  simp only [wr_succ (show i < 1000000000000000 by omega)]
  by_cases h : (ls.getD i default).Name.size ≤ 100 ∧ (ls.getD i default).Holds.length ≤ 40
  ·rw [if_neg (by simp only [Bool.or_eq_true, decide_eq_true_eq]; omega), if_pos h]
  ·rw [if_pos (by simp only [Bool.or_eq_true, decide_eq_true_eq]; omega), if_neg h]
def withS (f : TField) (c : TCounter × Int) : TField × Int := if c.2 = 0 then ({ f with Counter := c.1 }, 0) else (default, c.2)
def endFd (f : TField) (k n st : Int) : TField × Int :=
 if f.Kind = 1 then (if (EndS f.Holds k n st).2.2 = 0 then (if st = 2 then withS { f with Holds := (EndS f.Holds k n st).1 } (decS f.Counter k (EndS f.Holds k n st).2.1) else ({ f with Holds := (EndS f.Holds k n st).1 }, 0)) else (default, (EndS f.Holds k n st).2.2)) else (default, 17)
def LLt (a b : TLock) : Prop := a.Seq < b.Seq ∨ (a.Seq = b.Seq ∧ (a.Ver < b.Ver ∨ (a.Ver = b.Ver ∧ (a.Holder < b.Holder ∨ (a.Holder = b.Holder ∧ a.Value < b.Value)))))
instance (a b : TLock) : Decidable (LLt a b) := by unfold LLt; infer_instance
def SaysP (v : Int) (f : TField) : Prop := FOk f ∧ (1 ≤ v ∧ v ≤ 3) ∧ (v = 3 ∨ f.Epoch = 0) ∧ (1 < v ∨ f.Holds = [])
instance (v : Int) (f : TField) : Decidable (SaysP v f) := by unfold SaysP; infer_instance
/-- The number of seven bits of each byte. -/
def dec7 (l : List Int) : Nat := l.foldr (fun c a => a * 128 + c.toNat % 128) 0
structure Enc (l : List Int) (u : Nat) : Prop where
 exH : ∃ hs last, l = hs ++ [last] ∧ (∀ c ∈ hs, 128 ≤ c ∧ c < 256) ∧ 0 ≤ last ∧ last < 128 ∧ (hs ≠ [] → last ≠ 0)
 val : dec7 l = u
theorem ssl_pre {α : Type} {xs : List α} {l : Nat} (h : l ≤ xs.length) : ssl xs 0 (l : Int) = some (xs.take l) := by
 unfold ssl
 rw [if_pos (by omega)]
 simp
/-! The lens of vectors. -/
theorem links_gen {α : Type} [Inhabited α] {P : α → Prop} {R : α → α → Prop} (tr : ∀ {a b c : α}, R a b → R b c → R a c) (l : List α) :
  (∀ i, i < l.length → P (l.getD i default) ∧ (0 < i → R (l.getD (i - 1) default) (l.getD i default))) ↔ (∀ h ∈ l, P h) ∧ l.Pairwise R := by
 constructor
 ·intro h
  refine ⟨fun x hx => ?_, ?_⟩
  ·obtain ⟨i, hi, rfl⟩ := List.getElem_of_mem hx
   simpa [List.getD, hi] using (h i hi).1
  ·rw [List.pairwise_iff_getElem]
   intro i j hi hj hij
   induction j with
   | zero => omega
   | succ j ih =>
    have h1 := (h (j + 1) hj).2 (by omega)
    have e1 : l.getD (j + 1 - 1) default = l[j] := by simp [List.getD, show j < l.length by omega]
    have e2 : l.getD (j + 1) default = l[j + 1] := by simp [List.getD, hj]
    rw [e1, e2] at h1
    rcases Nat.lt_succ_iff_lt_or_eq.1 hij with h2 | rfl
    ·exact tr (ih (by omega) h2) h1
    ·exact h1
 ·rintro ⟨h1, h2⟩ i hi
  rw [List.pairwise_iff_getElem] at h2
  refine ⟨by rw [show l.getD i default = l[i] by simp [List.getD, hi]]; exact h1 _ (List.getElem_mem hi), fun h0 => ?_⟩
  rw [show l.getD i default = l[i] by simp [List.getD, hi], show l.getD (i - 1) default = l[i - 1] by simp [List.getD, show i - 1 < l.length by omega]]
  exact h2 _ _ (by omega) hi (by omega)
def RN (a b : TField) : Prop := bLs a.Name b.Name = true
instance (a b : TField) : Decidable (RN a b) := by unfold RN; infer_instance
theorem RN.trans {a b c : TField} (h : RN a b) (k : RN b c) : RN a c := bLs_trans h k
def FsOk (l : List TField) : Prop := (∀ f ∈ l, FOk f) ∧ l.Pairwise RN ∧ l.length ≤ 4
instance (l : List TField) : Decidable (FsOk l) := by unfold FsOk; infer_instance
/-- Fields that may be gone through. -/
def Small (l : List TField) : Prop := l.length ≤ 1000 ∧ ∀ f ∈ l, f.Name.size ≤ 1000000 ∧ f.Holds.length ≤ 100000
theorem Small.at {l : List TField} (h : Small l) (i : Nat) : (l.getD i default).Name.size ≤ 1000000 ∧ (l.getD i default).Holds.length ≤ 100000 := by
 by_cases hi : i < l.length
 ·rw [show l.getD i default = l[i] by simp [List.getD, hi]]; exact h.2 _ (List.getElem_mem hi)
 ·rw [show l.getD i default = default by simp [List.getD, Nat.le_of_not_lt hi]]; decide
def LinkF (l : List TField) (i : Nat) : Prop := FOk (l.getD i default) ∧ (0 < i → RN (l.getD (i - 1) default) (l.getD i default))
instance (l : List TField) : DecidablePred (LinkF l) := fun i => by unfold LinkF; infer_instance
theorem linksF_iff (l : List TField) : (∀ i, i < l.length → LinkF l i) ↔ (∀ f ∈ l, FOk f) ∧ l.Pairwise RN := links_gen (P := FOk) (R := RN) RN.trans l
theorem plan_Fields_eq (l : List TField) (hl : Small l) : plan_Fields l = some (decide (FsOk l)) := by
 have hn := hl.1
 unfold plan_Fields
 rw [loop_all l.length (by omega) (LinkF l) false () (fun i hi => ?_) (by simp [-List.getD_eq_getElem?_getD, plan_Fields_L1])]
 ·by_cases h : ∀ i, i < l.length → LinkF l i
  ·rw [if_pos h]
   have := (linksF_iff l).1 h
   refine sd ?_
   simp only [FsOk, this.2, true_and, decide_eq_true_eq]
   exact ⟨fun h => ⟨this.1, by omega⟩, fun h => by omega⟩
  ·rw [if_neg h, decide_eq_false (fun h2 : FsOk l => h ((linksF_iff l).2 ⟨h2.1, h2.2.1⟩))]; rfl
 ·have hs := hl.at i
  simp only [plan_Fields_L1, six_of hi, letM_eq, Option.bind, field_Right_eq _ (show (l.getD i default).Name.size ≤ 1000000000000000 by omega) (show (l.getD i default).Holds.length ≤ 1000000000000 by omega)]
  rw [if_pos (by simp; omega)]
  simp only [wr_succ (show i < 1000000000000000 by omega)]
  by_cases h1 : FOk (l.getD i default)
  ·by_cases h0 : 0 < i
   ·rw [gd_t (by rw [decide_eq_true h1]; simp; omega), wr_pred h0 (by omega), six_of (by omega)]
    simp only []
    by_cases h2 : RN (l.getD (i - 1) default) (l.getD i default)
    ·have h2' : bLs (l.getD (i - 1) default).Name (l.getD i default).Name = true := h2
     rw [if_neg (by rw [decide_eq_true h1, h2']; simp), if_pos ⟨h1, fun _ => h2⟩]
    ·have h2' : bLs (l.getD (i - 1) default).Name (l.getD i default).Name = false := by simpa [RN, -List.getD_eq_getElem?_getD] using h2
     rw [if_pos (by rw [decide_eq_true h1, h2', decide_eq_true (show (0 : Int) < (i : Int) by omega)]; rfl), if_neg (fun k => h2 (k.2 h0))]
   ·obtain rfl : i = 0 := by omega
    rw [gd_f (by simp)]
    simp only []
    rw [if_neg (by rw [decide_eq_true h1]; simp), if_pos ⟨h1, fun k => by omega⟩]
  ·rw [gd_f (by rw [decide_eq_false h1]; simp)]
   simp only []
   rw [if_pos (by rw [decide_eq_false h1]; rfl), if_neg (fun k => h1 k.1)]

/-- No other name. -/
def noS : ByteArray := ⟨#[]⟩
def kindOk (p : TPlan) : Prop :=
 (p.Kind = 1 ∨ p.Kind = 2) ∧ p.Other = noS ∧ 0 ≤ p.A ∧ 0 ≤ p.B ∧ 0 < p.A + p.B ∨ p.Kind = 3 ∧ p.Other = noS ∧ p.A = 0 ∧ p.B = 0 ∨ p.Kind = 4 ∧ p.Other = noS ∧ p.A ≤ p.B ∨
 p.Kind = 5 ∧ NameOk p.Other ∧ p.Other ≠ p.Name ∧ 1 ≤ p.A ∧ p.B = 0 ∨ p.Kind = 6 ∧ NameOk p.Other ∧ p.Other ≠ p.Name ∧ p.A = 0 ∧ p.B = 0
instance (p : TPlan) : Decidable (kindOk p) := by unfold kindOk; infer_instance
def PlOk (p : TPlan) : Prop := NameOk p.Name ∧ IsN p.A ∧ IsN p.B ∧ kindOk p
instance (p : TPlan) : Decidable (PlOk p) := by unfold PlOk; infer_instance
theorem obs {α β : Type} (x : α) (f : α → Option β) : Option.bind (some x) f = f x := rfl
def fndF (l : List TField) (n : ByteArray) : Option TField := l.find? fun f => decide (f.Name = n)
def madeOk (e v lo hi : Int) : Prop := IsN e ∧ IsN v ∧ IsN lo ∧ IsN hi ∧ IsN (hi - lo)
instance (e v lo hi : Int) : Decidable (madeOk e v lo hi) := by unfold madeOk; infer_instance
def madeF (n : ByteArray) (e v lo hi : Int) : TField := ⟨n, 1, e, newC v lo hi, (default : TLock), ([] : List THold)⟩
def tchB (p : TPlan) (n : ByteArray) : Bool := decide (n = p.Name) || (!decide (p.Other = noS) && decide (n = p.Other))
/-- What a plan is not about. -/
def rest (l : List TField) (p : TPlan) : List TField := l.filter fun f => !tchB p f.Name
def Few13 (l : List TField) (p : TPlan) : Prop := l.length ≤ 8 ∧ (∀ f ∈ l, f.Name.size ≤ 100 ∧ f.Holds.length ≤ 40) ∧ p.Name.size ≤ 100 ∧ p.Other.size ≤ 100
instance (l : List TField) (p : TPlan) : Decidable (Few13 l p) := by unfold Few13; infer_instance
theorem Few13_eq (l : List TField) (p : TPlan) : ul13_Few l p = some (decide (Few13 l p)) := by
 unfold ul13_Few
 by_cases h : l.length ≤ 8
 ·rw [gd_t (by simp; omega), Few7_eq l (by omega), obs]
  refine sd ?_
  have h' : (l.length : Int) ≤ 8 := by omega
  simp only [Few13, h, h', decide_true, Bool.true_and, true_and, Bool.and_eq_true, decide_eq_true_eq, and_assoc]
  refine and_congr_right fun _ => ?_
  omega
 ·rw [gd_f (by simp; omega), obs]
  refine sd ?_
  have h' : ¬ (l.length : Int) ≤ 8 := by omega
  simp [Few13, h, h']
/-- What is made of a field. -/
structure MadeOf (f : TField) (m : TField) : Prop where
 ok : FOk m
 holds : m.Holds = []
 epoch : f.Epoch < m.Epoch
 view : (viewS m).2 = 0
def vw (f : TField) : Int := (viewS f).1
structure Changed (f g : TField) (p : TPlan) (out : List TField) : Prop where
 names : out.map (fun x => x.Name) = if p.Kind = 5 then [p.Name, p.Other] else [p.Name]
 made : ∀ m ∈ out, MadeOf f m ∧ (p.Kind = 6 → g.Epoch < m.Epoch)
 sum : (out.map vw).sum = vw f + if p.Kind = 6 then vw g else 0
/-- Fields, as a plan that fits sees them. -/
structure Fit (l : List TField) (p : TPlan) (f : TField) : Prop where
 fs : FsOk l
 pl : PlOk p
 found : fndF l p.Name = some f
 one : p.Kind ≠ 6 → l.Perm (f :: rest l p)
 two : p.Kind = 6 → ∃ g, fndF l p.Other = some g ∧ l.Perm (f :: g :: rest l p)
 five : p.Kind = 5 → fndF l p.Other = none ∧ l.length ≠ 4
 kind : f.Kind = if p.Kind = 4 then 2 else 1
structure Parts (f : TField) (p : TPlan) (out : List TField) (o : Int) : Prop where
 out : out = [madeF f.Name (f.Epoch + 1) ((viewS f).1 - o) f.Counter.Low (f.Counter.High - p.A), madeF p.Other (f.Epoch + 1) o 0 p.A]
 m1 : madeOk (f.Epoch + 1) ((viewS f).1 - o) f.Counter.Low (f.Counter.High - p.A)
 n1 : NewOk ((viewS f).1 - o) f.Counter.Low (f.Counter.High - p.A)
 m2 : madeOk (f.Epoch + 1) o 0 p.A
 n2 : NewOk o 0 p.A
def VB (b : Int) (v : Vector Int 16) : Prop := ∀ i, 0 ≤ at16 v i ∧ at16 v i ≤ b
structure RB (b : Int) (r : TRights) : Prop where
 given : VB b r.Given
 used : VB b r.Used
 moved : ∀ i, VB b (rowAt r i)
theorem VB.mono {b c : Int} {v : Vector Int 16} (h : VB b v) (hc : b ≤ c) : VB c v := fun i => ⟨(h i).1, by have := (h i).2; omega⟩
theorem RB.mono {b c : Int} {r : TRights} (h : RB b r) (hc : b ≤ c) : RB c r := ⟨h.given.mono hc, h.used.mono hc, fun i => (h.moved i).mono hc⟩
structure CB (b : Int) (c : TCounter) : Prop where
 init : -1000 ≤ c.Init ∧ c.Init ≤ 1000
 down : RB b c.Down
 up : RB b c.Up
theorem CB.mono {b d : Int} {c : TCounter} (h : CB b c) (hd : b ≤ d) : CB d c := ⟨h.init, h.down.mono hd, h.up.mono hd⟩
/-- Holds that are small. -/
structure HBo (u : Int) (l : List THold) : Prop where
 rts : Rts l
 few_ : ∀ h ∈ l, h.Amount ≤ 3000 ∧ h.Number ≤ u
theorem HBo.mono {u w : Int} {l : List THold} (h : HBo u l) (hu : u ≤ w) : HBo w l := ⟨h.rts, fun x hx => ⟨(h.few_ x hx).1, by have := (h.few_ x hx).2; omega⟩⟩
/-- A counter's field that is small. -/
structure LI (b u : Int) (x : TField) : Prop where
 kind : x.Kind = 1
 cb : CB b x.Counter
 hb : HBo u x.Holds
theorem LI.mono {b c u w : Int} {x : TField} (h : LI b u x) (hb : b ≤ c) (hu : u ≤ w) : LI c w x := ⟨h.kind, h.cb.mono hb, h.hb.mono hu⟩
theorem LI.len {b u : Int} {x : TField} (h : LI b u x) : x.Holds.length ≤ 1000000 := by have := h.hb.rts.2.2; omega
def SmH (l : List THold) : Prop := (∀ h ∈ l, 0 ≤ h.Amount ∧ h.Amount ≤ 1073741824) ∧ l.length ≤ 40
theorem SmH.put {l : List THold} (h : SmH l) (hl : l.length ≤ 16) {X : THold} (h0 : 0 ≤ X.Amount) (h1 : X.Amount ≤ 1073741824) : SmH (putS l X) :=
 ⟨fun y hy => by
  rcases putS_mem.1 hy with rfl | hy
  ·exact ⟨h0, h1⟩
  ·exact h.1 y hy, by rw [putS_length]; omega⟩
/-- What holds of a reserve, and of its ends. -/
structure DoneR (x : TField) (k a D U : Int) (r : TField) (n : Int) : Prop where
 loose : looseS r k = (D - a, U)
 rlen : r.Holds.length ≤ 1000000
 gone : (endFd r k n 3).2 = 0
 gonel : (looseS (endFd r k n 3).1 k).1 = D
 keep : (endFd r k n 2).2 = 0
 keepl : (looseS (endFd r k n 2).1 k).1 = D - a
 view : (viewS (endFd r k n 2).1).1 = (viewS x).1 - a
 glen : (endFd r k n 3).1.Holds.length ≤ 1000000
 klen : (endFd r k n 2).1.Holds.length ≤ 1000000
def allB (n : Int) : Int := wr .i64 (iShl .i64 1 (min (max n 0) 16) - 1)
def zeroB : YbrB := ⟨0, 0, 0, 0, (default : TPlan), 0, 0, 0, ([] : List TField), ([] : List TField)⟩
theorem barrier_New_eq (n : Int) : barrier_New n = some (if 2 ≤ n ∧ n ≤ 16 then ({ zeroB with N := n }, 0) else (zeroB, 1)) := by
 unfold barrier_New
 by_cases h : 2 ≤ n ∧ n ≤ 16
 ·rw [if_pos h, if_neg (by simp; omega)]; rfl
 ·rw [if_neg h, if_pos (by simp; omega)]; rfl
def pend (b : YbrB) : Prop := b.State = 1 ∨ ((b.State = 2 ∨ b.State = 3) ∧ b.Told ≠ allB b.N)
instance (b : YbrB) : Decidable (pend b) := by unfold pend; infer_instance
theorem Small.filter {l : List TField} (h : Small l) (q : TField → Bool) : Small (l.filter q) := ⟨by have := List.length_filter_le q l; have := h.1; omega, fun f hf => h.2 f (List.mem_filter.1 hf).1⟩
theorem Small.nil : Small [] := ⟨by simp, by simp⟩
theorem RN.of {a b : TField} (h : ¬ RN a b) (n : a.Name ≠ b.Name) : RN b a := by
 unfold RN at *
 cases k : bLs b.Name a.Name with
 | true => rfl
 | false => exact (n (bLs_tri (by simpa using h) k)).elim
def maskN : List Bool → Nat
 | [] => 0
 | b :: t => (if b = true then 1 else 0) + 2 * maskN t
theorem maskN_bit : ∀ (l : List Bool) (i : Nat), (maskN l).testBit i = l.getD i false
 | [], i => by simp [maskN]
 | b :: t, 0 => by
  simp only [maskN, Nat.testBit_zero, List.getD_cons_zero]
  cases b <;> simp <;> omega
 | b :: t, i + 1 => by
  rw [Nat.testBit_succ, List.getD_cons_succ, ← maskN_bit t i]
  congr 1
  simp only [maskN]
  cases b <;> simp <;> omega
theorem maskN_all (l : List Bool) : maskN l = 2 ^ l.length - 1 ↔ l.all id = true := by
 constructor
 ·intro h
  rw [List.all_eq_true]
  intro x hx
  obtain ⟨i, hi, rfl⟩ := List.getElem_of_mem hx
  have := maskN_bit l i
  rw [h, Nat.testBit_two_pow_sub_one] at this
  simp [List.getD, hi] at this
  simpa using this
 ·intro h
  refine Nat.eq_of_testBit_eq fun i => ?_
  rw [maskN_bit, Nat.testBit_two_pow_sub_one]
  by_cases hi : i < l.length
  ·have := List.all_eq_true.1 h l[i] (List.getElem_mem hi)
   simp [List.getD, hi]
   simpa using this
  ·simp [List.getD, hi, Nat.le_of_not_lt hi]
theorem allB_nat : ∀ n, n < 17 → allB ((n : Nat) : Int) = ((2 ^ n - 1 : Nat) : Int) := by decide
structure Inv (n i : Nat) (b : YbrB) (A T : List Bool) : Prop where
 n2 : 2 ≤ n
 n16 : n ≤ 16
 N : b.N = (n : Int)
 st : b.State = 0 ∨ b.State = 1 ∨ b.State = 2 ∨ b.State = 3
 num0 : 0 ≤ b.Number
 num : b.Number ≤ (i : Int)
 la : A.length = n
 lt : T.length = n
 ac : b.Acked = ((maskN A : Nat) : Int)
 to : b.Told = ((maskN T : Nat) : Int)
 sJ : Small b.Joined
 jl : b.Joined.length ≤ 900
 sM : Small b.Made
 kind : inI64 b.Plan.Kind = true
 p1 : b.Plan.Name.size ≤ 1000000
 p2 : b.Plan.Other.size ≤ 1000000
 yes : b.State = 2 → b.Acked = allB (n : Int)
 fr : b.State = 1 → b.Told = 1
theorem Inv.all {n i : Nat} {b : YbrB} {A T : List Bool} (h : Inv n i b A T) : b.Told = allB b.N ↔ T.all id = true := by
 rw [h.N, h.to, allB_nat n (by have := h.n16; omega), ← maskN_all, h.lt]; omega
/-- What a step of a barrier may do. -/
structure Move (n : Nat) (verb : Int) (b c : YbrB) : Prop where
 stay : (b.State = 2 ∨ b.State = 3) → c.State ≠ b.State → verb = 0 ∧ b.Told = allB (n : Int) ∧ c.State = 1
 num0 : b.Number ≤ c.Number
 num1 : c.Number ≤ b.Number + 1
theorem Move.same (n : Nat) (verb : Int) (b c : YbrB) (h1 : c.State = b.State) (h2 : c.Number = b.Number) : Move n verb b c := ⟨fun _ h => (h h1).elim, by omega, by omega⟩
theorem Inv.up {n i : Nat} {b : YbrB} {A T : List Bool} (h : Inv n i b A T) : Inv n (i + 1) b A T := { h with num := by have := h.num; omega }
def FewDo (d : Yl18D) : Prop := d.Name.size ≤ 100 ∧ Few13 [] d.Plan ∧ Few13 d.M.Fields d.M.Plan
instance (d : Yl18D) : Decidable (FewDo d) := by unfold FewDo; infer_instance
theorem Few14_eq (m : TMessage) : ul14_Few m = some (decide (Few13 m.Fields m.Plan)) := by
 unfold ul14_Few
 rw [Few13_eq]; rfl
def Few18 (l : List TField) (ds : List Yl18D) : Prop := (∀ i, i < ds.length → FewDo (ds.getD i default)) ∧ ds.length ≤ 20 ∧ l.length ≤ 8 ∧ ∀ f ∈ l, f.Name.size ≤ 100 ∧ f.Holds.length ≤ 40
instance (l : List TField) (ds : List Yl18D) : Decidable (Few18 l ds) := by unfold Few18; infer_instance
theorem few18_eq (l : List TField) (ds : List Yl18D) (h : ds.length ≤ 1000000000) : ul18_few l ds = some (decide (Few18 l ds)) := by
 unfold ul18_few
 have hl : loopM (ul18_few_L1 ds) fuel 0 = some (if ∀ i, i < ds.length → FewDo (ds.getD i default) then .inl () else .inr false) := by
  refine loop_all ds.length (by omega) (fun i => FewDo (ds.getD i default)) false () (fun i hi => ?_) ?_
  ·unfold ul18_few_L1
   rw [if_pos (by simp <;> omega), six_of hi, obs, letM_eq]
   generalize ds.getD i default = d
   by_cases h1 : d.Name.size ≤ 100
   ·rw [gd_t (by simp <;> omega), Few13_eq, obs]
    by_cases h2 : Few13 [] d.Plan
    ·rw [gd_t (by simp [h2]; omega), Few14_eq, obs]
     by_cases h3 : Few13 d.M.Fields d.M.Plan
     ·rw [if_neg (by simp [h2, h3]; omega), if_pos ⟨h1, h2, h3⟩, wr_succ (by omega)]
     ·rw [if_pos (by simp [h2, h3]), if_neg (fun hd => h3 hd.2.2)]
    ·rw [gd_f (by simp [h2]), obs, if_pos (by simp [h2]), if_neg (fun hd => h2 hd.2.1)]
   ·rw [gd_f (by simp <;> omega), obs, gd_f (by simp <;> omega), obs, if_pos (by simp <;> omega), if_neg (fun hd => h1 hd.1)]
  ·unfold ul18_few_L1
   rw [if_neg (by simp)]
 rw [hl]
 by_cases hg : ∀ i, i < ds.length → FewDo (ds.getD i default)
 ·rw [if_pos hg, obs]
  simp only [onS]
  by_cases h20 : ds.length ≤ 20
  ·rw [gd_t (by simp <;> omega), Few13_eq, obs, letM_eq]
   refine sd ?_
   have : (ds.length : Int) ≤ 20 := by omega
   rw [Bool.and_eq_true, decide_eq_true_eq, decide_eq_true_eq]
   exact ⟨fun hh => ⟨hg, h20, hh.2.1, hh.2.2.1⟩, fun hh => ⟨this, hh.2.2.1, hh.2.2.2, by decide, by decide⟩⟩
  ·rw [gd_f (by simp <;> omega), obs, letM_eq]
   refine sd ?_
   have : ¬ (ds.length : Int) ≤ 20 := by omega
   simp [Few18, h20, this]
 ·rw [if_neg hg, obs]
  simp only [onS]
  rw [show decide (Few18 l ds) = false from decide_eq_false fun hh => hg hh.1]
theorem wire_Meet_eq (a b : Int) : wire_Meet a b = some (if (1 ≤ a ∧ a ≤ 3) ∧ (1 ≤ b ∧ b ≤ 3) then min a b else 0) := by
 have hi : ∀ v, wire_is v = some (decide (1 ≤ v ∧ v ≤ 3)) := fun v => by
  unfold wire_is
  exact sd (by simp)
 unfold wire_Meet
 rw [hi, obs, hi]
 by_cases h1 : 1 ≤ a ∧ a ≤ 3
 ·rw [gd_t (by simp [h1]), obs]
  by_cases h2 : 1 ≤ b ∧ b ≤ 3
  ·rw [if_neg (by simp [h1, h2]), if_pos ⟨h1, h2⟩]
  ·rw [if_pos (by simp [h2]), if_neg (fun hh => h2 hh.2)]
 ·rw [gd_f (by simp [h1]), obs, if_pos (by simp [h1]), if_neg (fun hh => h1 hh.1)]
theorem state_own_eq (l : List TField) (hl : Small l) : state_own l = some l := by
 have hn := hl.1
 unfold state_own
 rw [loopM_eq (q := l) (fun i s => s = ((i : Int), l.take i)) l.length (by omega) ?_ ?_ (by simp)]
 ·rfl
 ·rintro i s hi rfl
  refine .inl ⟨_, ?_, rfl⟩
  have hh := hl.at i
  simp only [state_own_L1]
  rw [if_pos (by simp <;> omega), six_of hi, obs, letM_eq, app_of (by simp only [List.length_nil]; omega), obs, letM_eq, app_of (by simp only [List.length_cons, List.length_nil, List.length_take]; omega), obs]
  simp only [wr_succ (show i < 1000000000000000 by omega), List.nil_append]
  congr 4
  rw [show l.getD i default = l[i] by simp [List.getD, hi]]
  exact (List.take_succ_eq_append_getElem hi).symm
 ·rintro s rfl
  simp only [state_own_L1]
  rw [if_neg (by simp)]; simp
def zeroSt : YseS := ⟨0, 0, 0, 0, 0, (default : TPlan), ([] : List TField), zeroB⟩
def NewP (self n : Int) (l : List TField) : Prop := (2 ≤ n ∧ n ≤ 16) ∧ 0 ≤ self ∧ self < n ∧ FsOk l
instance (self n : Int) (l : List TField) : Decidable (NewP self n l) := by unfold NewP; infer_instance
def newS (self n : Int) (l : List TField) : YseS := ⟨self, n, 0, 0, 0, (default : TPlan), l, if self = 0 then { zeroB with N := n } else zeroB⟩
theorem state_New_eq (self n : Int) (l : List TField) (hl : Small l) : state_New self n l = some (if NewP self n l then (newS self n l, 0) else (zeroSt, 1)) := by
 unfold state_New
 rw [barrier_New_eq, obs]
 by_cases h1 : 2 ≤ n ∧ n ≤ 16
 ·rw [if_pos h1]
  by_cases h2 : 0 ≤ self ∧ self < n
  ·rw [gd_t (by simp <;> omega), plan_Fields_eq l hl, obs, letM_eq]
   by_cases h3 : FsOk l
   ·rw [if_neg (by simp [h3]; omega), if_pos ⟨h1, h2.1, h2.2, h3⟩, state_own_eq l hl, obs, letM_eq]
    unfold newS
    by_cases h0 : self = 0
    ·rw [if_pos (by simp [h0]), letM_eq, if_pos h0]
    ·rw [if_neg (by simp [h0]), if_neg h0]; rfl
   ·rw [if_pos (by simp [h3]), letM_eq, if_neg (fun hh => h3 hh.2.2.2)]; rfl
  ·rw [gd_f (by simp <;> omega), obs, letM_eq, if_pos (by simp <;> omega), letM_eq, if_neg (fun hh => h2 ⟨hh.2.1, hh.2.2.1⟩)]; rfl
 ·rw [if_neg h1, gd_f (by simp), obs, letM_eq, if_pos (by simp), letM_eq, if_neg (fun hh => h1 hh.1)]; rfl
def OpenP (self n v : Int) (l : List TField) : Prop := (1 ≤ v ∧ v ≤ 3) ∧ NewP self n l
instance (self n v : Int) (l : List TField) : Decidable (OpenP self n v l) := by unfold OpenP; infer_instance
theorem replica_Open_d_eq (self n v : Int) (l : List TField) (b : Int) (hl : Small l) : replica_Open_d self n v l b = some (if OpenP self n v l then .inr (dnew b, ⟨newS self n l, v⟩, ⟨[]⟩) else .inl (1, dnew b)) := by
 unfold replica_Open_d
 rw [wire_Meet_eq, obs]
 by_cases h1 : 1 ≤ v ∧ v ≤ 3
 ·have hm : (if (1 ≤ v ∧ v ≤ 3) ∧ (1 ≤ v ∧ v ≤ 3) then min v v else 0) = v := by rw [if_pos ⟨h1, h1⟩]; omega
  rw [hm, if_neg (by simp <;> omega), state_New_eq _ _ _ hl, obs]
  by_cases h2 : NewP self n l
  ·rw [if_pos h2, if_neg (by simp), if_pos ⟨h1, h2⟩]
  ·rw [if_neg h2, if_pos (by simp), if_neg (fun hh => h2 hh.2)]
 ·have hm : (if (1 ≤ v ∧ v ≤ 3) ∧ (1 ≤ v ∧ v ≤ 3) then min v v else 0) = 0 := if_neg (fun hh => h1 hh.1)
  rw [hm, if_pos (by simp), if_neg (fun hh => h1 hh.1)]
structure PlanW (p : TPlan) : Prop where
 k : inI64 p.Kind = true
 n : p.Name.size ≤ 1000000
 o : p.Other.size ≤ 1000000
def zeroPl : TPlan := ⟨0, (default : ByteArray), (default : ByteArray), 0, 0⟩
def MayP (p : TPlan) (b : Bool) : Prop := if b = true then PlOk p else p = zeroPl
instance (p : TPlan) (b : Bool) : Decidable (MayP p b) := by unfold MayP; infer_instance
structure BarW (b : YbrB) : Prop where
 p : PlanW b.Plan
 j : Small b.Joined
 m : Small b.Made
def LedOk (b : YbrB) (n : Int) : Prop := b.N = n ∧ 0 ≤ b.State ∧ b.State ≤ 3 ∧ (∀ x ∈ [b.Number, b.Epoch, b.Due, b.Acked, b.Told], cnt x) ∧ MayP b.Plan (!decide (b.State = 0)) ∧ FsOk b.Joined ∧ FsOk b.Made
instance (b : YbrB) (n : Int) : Decidable (LedOk b n) := by unfold LedOk; infer_instance
structure StW (s : YseS) : Prop where
 p : PlanW s.Plan
 f : Small s.Fields
 b : BarW s.Barrier
def HeadOk (s : YseS) : Prop := ((2 ≤ s.N ∧ s.N ≤ 16) ∧ 0 ≤ s.Self ∧ s.Self < s.N) ∧ s.Clock ≤ 1073741824
instance (s : YseS) : Decidable (HeadOk s) := by unfold HeadOk; infer_instance
def StOk (s : YseS) : Prop := (HeadOk s ∧ (∀ x ∈ [s.Clock, s.Decided, s.Frozen], cnt x) ∧ MayP s.Plan (decide (0 < s.Frozen)) ∧ FsOk s.Fields) ∧ (if s.Self = 0 then LedOk s.Barrier s.N else s.Barrier = zeroB)
instance (s : YseS) : Decidable (StOk s) := by unfold StOk; infer_instance
theorem iAnd15 (v : Int) : ∃ k : Fin 16, fix_ 16 (iAnd .u32 v 15) = some k := by
 have h : (BitVec.ofInt 32 v &&& BitVec.ofInt 32 15).toNat < 16 := by
  rw [BitVec.toNat_and]
  exact Nat.lt_of_le_of_lt Nat.and_le_right (by decide)
 have e : iAnd .u32 v 15 = ((BitVec.ofInt 32 v &&& BitVec.ofInt 32 15).toNat : Int) := by
  unfold iAnd
  show IntKind.wrap .u32 (((BitVec.ofInt 32 v &&& BitVec.ofInt 32 15).toNat : Nat) : Int) = _
  generalize (BitVec.ofInt 32 v &&& BitVec.ofInt 32 15).toNat = n at h ⊢
  have : ∀ n, n < 16 → IntKind.wrap .u32 ((n : Nat) : Int) = (n : Int) := by decide
  exact this n h
 rw [e]
 exact ⟨_, fix_of h⟩
theorem frame_Sum_ok (l : List Int) (hl : l.length ≤ 1000000) : ∃ n, frame_Sum l = some n := by
 unfold frame_Sum
 obtain ⟨r, hr, _⟩ := loopM_ind (body := frame_Sum_L1 l) (fun i s => s.1 = (i : Int)) l.length (by omega) (fun _ => True) (s0 := (0, 4294967295)) (fun i s hi hs => by
  obtain ⟨a, v⟩ := s
  simp only at hs
  subst hs
  left
  unfold frame_Sum_L1
  obtain ⟨k, hk⟩ := iAnd15 (iXor .u32 v (wr .u32 (l.getD i default)))
  obtain ⟨k2, hk2⟩ := iAnd15 (iXor .u32 (nibV.get k) (iShr .u32 (iXor .u32 v (wr .u32 (l.getD i default))) 4))
  rw [if_pos (by simp <;> omega), six_of hi, obs, letM_eq]
  simp only
  rw [hk, obs, letM_eq, hk2, obs, letM_eq, wr_succ (by omega)]
  exact ⟨_, rfl, rfl⟩) (fun s hs => by
  obtain ⟨a, v⟩ := s
  simp only at hs
  subst hs
  exact ⟨v, by simp [frame_Sum_L1], trivial⟩) rfl
 rw [hr]
 exact ⟨_, rfl⟩
theorem grow_byte {n : Int} (h0 : 0 ≤ n) (h : n ≤ 1000000) : slices_Grow_byte_own n = some [] := by
 unfold slices_Grow_byte_own
 rw [if_neg (by simp; omega), letM_eq]
 have e : wr .i64 (n - wr .i64 (0 - 0)) = n := by rw [wr_id (n := 0 - 0) (by omega), wr_id (by omega)]; omega
 rw [e]
 by_cases c : 0 < n
 ·rw [if_pos (decide_eq_true c)]
  have : mkM 1 n = some () := by unfold mkM; rw [if_pos (by omega)]
  rw [this]; rfl
 ·rw [if_neg (by simpa using c)]
theorem concat3 {a b c : List Int} (h : a.length + b.length + c.length ≤ 1000000) : slices_Concat_byte [a, b, c] = some (a ++ b ++ c) := by
 unfold slices_Concat_byte
 have g : ∀ i, i < 3 → six [a, b, c] ((i : Nat) : Int) = some i := fun i hi => six_of hi
 have h1 : loopM (slices_Concat_byte_L1 [a, b, c]) fuel (0, 0) = some ((a.length + b.length + c.length : Nat) : Int) := by
  refine loopM_eq (body := slices_Concat_byte_L1 [a, b, c]) (fun i s => s = ((i : Int), ((if i = 0 then 0 else if i = 1 then a.length else if i = 2 then a.length + b.length else a.length + b.length + c.length : Nat) : Int))) 3 (by omega) _ ?_ ?_ rfl
  ·rintro i s hi rfl
   refine .inl ⟨_, ?_, rfl⟩
   simp only [slices_Concat_byte_L1, decide_eq_true (show ((i : Nat) : Int) < (([a, b, c] : List (List Int)).length : Int) from by simp; omega), if_true, g i hi, Option.bind_some, letM_eq]
   rcases (show i = 0 ∨ i = 1 ∨ i = 2 by omega) with rfl | rfl | rfl
   ·have e : wr .i64 (((0 : Nat) : Int) + (a.length : Int)) = (a.length : Int) := by rw [wr_id (by omega)]; omega
    simp only [if_true, List.getD_cons_zero]
    rw [e, if_neg (by simp), wr_succ (by omega)]
    rfl
   ·have e : wr .i64 ((a.length : Int) + (b.length : Int)) = ((a.length + b.length : Nat) : Int) := by rw [wr_id (by omega)]; omega
    simp only [if_true, List.getD_cons_succ, List.getD_cons_zero, show ¬ (1 = 0) from by decide, if_false]
    rw [e, if_neg (by simp; omega), wr_succ (by omega)]
    rfl
   ·have e : wr .i64 (((a.length + b.length : Nat) : Int) + (c.length : Int)) = ((a.length + b.length + c.length : Nat) : Int) := by rw [wr_id (by omega)]; omega
    simp only [if_true, List.getD_cons_succ, List.getD_cons_zero, show ¬ (2 = 0) from by decide, show ¬ (2 = 1) from by decide, if_false]
    rw [e, if_neg (by simp; omega), wr_succ (by omega)]
    rfl
  ·rintro s rfl
   simp [slices_Concat_byte_L1]
 rw [h1]
 simp only [Option.bind_some]
 rw [grow_byte (by omega) (by omega)]
 simp only [Option.bind_some]
 have h2 : loopM (slices_Concat_byte_L2 [a, b, c]) fuel (0, []) = some (a ++ b ++ c) := by
  refine loopM_eq (body := slices_Concat_byte_L2 [a, b, c]) (fun i s => s = ((i : Int), if i = 0 then [] else if i = 1 then a else if i = 2 then a ++ b else a ++ b ++ c)) 3 (by omega) _ ?_ ?_ rfl
  ·rintro i s hi rfl
   refine .inl ⟨_, ?_, rfl⟩
   simp only [slices_Concat_byte_L2, decide_eq_true (show ((i : Nat) : Int) < (([a, b, c] : List (List Int)).length : Int) from by simp; omega), if_true, g i hi, Option.bind_some]
   rcases (show i = 0 ∨ i = 1 ∨ i = 2 by omega) with rfl | rfl | rfl
   ·simp only [if_true, List.getD_cons_zero]
    rw [app_of (by simp only [List.length_nil]; omega), wr_succ (by omega)]
    rfl
   ·simp only [List.getD_cons_succ, List.getD_cons_zero, show ¬ (1 = 0) from by decide, if_false, if_true]
    rw [app_of (by omega), wr_succ (by omega)]
    rfl
   ·simp only [List.getD_cons_succ, List.getD_cons_zero, show ¬ (2 = 0) from by decide, show ¬ (2 = 1) from by decide, if_false, if_true]
    rw [app_of (by simp only [List.length_append]; omega), wr_succ (by omega)]
    rfl
  ·rintro s rfl
   simp [slices_Concat_byte_L2]
 rw [h2]; rfl
theorem frame_Put_ok {p : List Int} (h : p.length ≤ 32768) : ∃ b, frame_Put p = some (b, 0) ∧ b.length = p.length + 8 := by
 unfold frame_Put
 rw [if_neg (by simp <;> omega)]
 obtain ⟨n, hn⟩ := frame_Sum_ok p (by omega)
 unfold frame_four
 rw [obs, hn, obs, obs, concat3 (by simp only [List.length_cons, List.length_nil]; omega), obs]
 exact ⟨_, rfl, by simp only [List.length_append, List.length_cons, List.length_nil]; omega⟩
theorem disk_Append_ok {b : List Int} {d : YdkD} (h : (d.b.length : Int) + b.length ≤ d.size) (hs : d.size ≤ 1048576) : disk_Disk_Append b d = some (0, { d with b := d.b ++ b }) := by
 unfold disk_Disk_Append disk_Disk_Room
 rw [letM_eq, obs, letM_eq, wr_id (by omega)]
 rw [if_neg (by simp <;> omega)]
 have e : ssl d.b 0 (d.b.length : Int) = some d.b := by rw [ssl_pre (Nat.le_refl _), List.take_length]
 simp only
 rw [e, obs, app_of (by omega), obs, letM_eq]
theorem wlog_Append_ok {p : List Int} {l : YwgL} {d : YdkD} (hp : p.length ≤ 32768) (h : (d.b.length : Int) + p.length + 8 ≤ d.size) (hs : d.size ≤ 1048576) (hl : l.all.length ≤ 10000) :
  ∃ d', wlog_Log_Append_g p l d = some (0, ⟨l.all ++ [p]⟩, d') ∧ d'.size = d.size ∧ d'.b.length = d.b.length + p.length + 8 := by
 unfold wlog_Log_Append_g
 obtain ⟨b, hb, hbl⟩ := frame_Put_ok hp
 rw [hb, obs, if_pos (by simp), disk_Append_ok (by show (d.b.length : Int) + b.length ≤ d.size; omega) hs, obs, if_pos (by simp)]
 unfold disk_Disk_Sync
 rw [letM_eq, obs, app_of (by simp only [List.length_nil]; omega), obs, app_of (by simp only [List.length_append, List.length_cons, List.length_nil]; omega), obs]
 exact ⟨_, rfl, rfl, by simp only [List.length_append]; omega⟩
/-- A replica, its log and its disk, on which there is room for more. -/
structure RepI (k : Nat) (r : YraR) (l : YwgL) (d : YdkD) : Prop where
 w : StW r.s
 ok : StOk r.s
 j : r.s.Barrier.Joined.length ≤ 2
 m : r.s.Barrier.Made.length ≤ 2
 l : l.all.length ≤ k
 z : d.size ≤ 1048576
 b : (d.b.length : Int) + (31 - k) * 32776 ≤ d.size
section
set_option maxRecDepth 100000
def awL : List TField := ul18_one.getD []
theorem awL_eq : ul18_one = some awL := by decide +kernel
theorem awSmall : Small awL := ⟨by decide +kernel, by decide +kernel⟩
def awA : ByteArray := ⟨#[97]⟩
def awS0 : YseS := newS 0 2 awL
def awF : TField := ((state_Find awS0 awA).getD (default, 0)).1
def awF1 : TField := ((replica_Replica_Add_1 awF 0 (-2)).getD (default, 0)).1
def awS1 : YseS := (state_With awS0 awF1).getD zeroSt
def awP : TPlan := ⟨3, awA, (default : ByteArray), 0, 0⟩
def awB : YbrB := ((barrier_Start awS1.Barrier awS1.Fields awP (wr .i64 (awS1.Clock + 9))).getD (zeroB, 0)).1
def awS2 : YseS := { awS1 with Barrier := awB, Frozen := awB.Number, Plan := awP }
theorem awFind : state_Find awS0 awA = some (awF, 0) := by decide +kernel
theorem awAdd : replica_Replica_Add_1 awF 0 (-2) = some (awF1, 0) := by decide +kernel
theorem awWith : state_With awS0 awF1 = some awS1 := by decide +kernel
theorem awStart : barrier_Start awS1.Barrier awS1.Fields awP (wr .i64 (awS1.Clock + 9)) = some (awB, 0) := by decide +kernel
theorem awOk0 : OpenP 0 2 3 awL := by decide +kernel
theorem awSame1 : state_Same awS1 awS0 = some false := by decide +kernel
theorem awSame2 : state_Same awS2 awS1 = some false := by decide +kernel
theorem awCopy1 : state_Copy awS1 = some awS1 := by decide +kernel
theorem awCopy2 : state_Copy awS2 = some awS2 := by decide +kernel
theorem awFind2 : (state_Find awS2 awA).map (fun r => r.2) = some 13 := by decide +kernel
theorem awEnc1 : (state_Encode awS1).map (fun r => (r.1.length, r.2)) = some (611, 0) := by decide +kernel
theorem awEnc2 : (state_Encode awS2).map (fun r => (r.1.length, r.2)) = some (1200, 0) := by decide +kernel
def awM : List TField := (message_Said 3 awS2.Fields).getD []
theorem awSaid : message_Said 3 awS2.Fields = some awM := by decide +kernel
theorem map_some' {α β : Type} {o : Option α} {f : α → β} {y : β} (h : o.map f = some y) : ∃ x, o = some x ∧ f x = y := by
 cases o with
 | none => cases h
 | some x => exact ⟨x, rfl, Option.some.inj h⟩
theorem awMeet : wire_Meet 3 3 = some 3 := by decide +kernel
theorem awSay (l : YwgL) (d : YdkD) : ∃ m, replica_Replica_Say_g 1 3 ⟨awS2, 3⟩ l d = some (m, ⟨awS2, 3⟩, l, d) ∧ m.length = 2 := by
 unfold replica_Replica_Say_g
 simp only
 rw [letM_eq, gd_t (by decide +kernel), awMeet, obs, if_neg (by decide +kernel), awCopy2, obs, obs, awSaid, obs, letM_eq, gd_t (by decide +kernel), show replica_Replica_Say_1 awS2.Barrier.Acked 1 = some false by decide +kernel, obs, letM_eq, if_pos (by decide +kernel), letM_eq, app_of (by decide), obs]
 exact ⟨_, rfl, rfl⟩
theorem awFindR : plan_Find awS2.Fields awA = some (0, true) := by decide +kernel
theorem awView : field_View (awS2.Fields.getD 0 default) = some (3, 0) := by decide +kernel
theorem awRead (l : YwgL) (d : YdkD) : replica_Replica_Read_g awA ⟨awS2, 3⟩ l d = some (3, 0, ⟨awS2, 3⟩, l, d) := by
 unfold replica_Replica_Read_g
 simp only
 rw [awFindR, obs, if_neg (by simp), show six awS2.Fields 0 = some 0 by decide +kernel, obs, letM_eq, awView, obs]
theorem awAdd2 (l : YwgL) (d : YdkD) : replica_Replica_Add_g awA 1 ⟨awS2, 3⟩ l d = some (13, ⟨awS2, 3⟩, l, d) := by
 obtain ⟨⟨f, e⟩, hf, he⟩ := map_some' awFind2
 simp only at he
 subst he
 unfold replica_Replica_Add_g replica_Replica_change_Replica_Add_1_g
 simp only
 rw [hf, obs, if_neg (by simp), if_pos (by simp), obs]
end
theorem keep_at {s t : YseS} {v : Int} {l : YwgL} {d : YdkD} {n : Nat} (h1 : state_Same t s = some false) (h2 : (state_Encode t).map (fun r => (r.1.length, r.2)) = some (n, 0)) (hn : n ≤ 32768) (h : (d.b.length : Int) + n + 8 ≤ d.size) (hs : d.size ≤ 1048576) (hl : l.all.length ≤ 10000) :
  ∃ l' d', replica_Replica_keep_g t ⟨s, v⟩ l d = some (0, ⟨t, v⟩, l', d') ∧ d'.size = d.size ∧ d'.b.length = d.b.length + n + 8 ∧ l'.all.length = l.all.length + 1 := by
 obtain ⟨⟨x, e⟩, hx, he⟩ := map_some' h2
 simp only [Prod.mk.injEq] at he
 obtain ⟨rfl, rfl⟩ := he
 obtain ⟨d', hd, hz, hbl⟩ := wlog_Append_ok (p := x) (l := l) (d := d) hn h hs hl
 unfold replica_Replica_keep_g
 rw [h1, obs, if_neg (by simp), hx, obs, if_neg (by simp), hd, obs, if_neg (by simp), if_pos (by simp)]
 exact ⟨_, d', rfl, hz, hbl, by simp⟩
theorem awGuard : (((!decide (awS1.Self = 0)) || (decide ((9 : Int) < 1))) || (decide ((1000 : Int) < 9))) = false := by decide +kernel
theorem awS2_eq : awS2 = { awS1 with Barrier := awB, Frozen := awB.Number, Plan := awP } := rfl
theorem add_of {s t : YseS} {f f1 : TField} {v A : Int} {a : ByteArray} {l l' : YwgL} {d d' : YdkD} (h1 : state_Find s a = some (f, 0)) (h2 : replica_Replica_Add_1 f s.Self A = some (f1, 0)) (h3 : state_With s f1 = some t)
  (hk : replica_Replica_keep_g t ⟨s, v⟩ l d = some (0, ⟨t, v⟩, l', d')) : replica_Replica_Add_g a A ⟨s, v⟩ l d = some (0, ⟨t, v⟩, l', d') := by
 unfold replica_Replica_Add_g replica_Replica_change_Replica_Add_1_g
 simp only
 rw [h1, obs, if_pos (by simp), h2, obs, if_neg (by simp), h3, obs, hk, obs, obs]
theorem change_of {s t : YseS} {B : YbrB} {p : TPlan} {v A : Int} {l l' : YwgL} {d d' : YdkD} (h0 : (((!decide (s.Self = 0)) || (decide (A < 1))) || (decide (1000 < A))) = false)
  (h1 : barrier_Start s.Barrier s.Fields p (wr .i64 (s.Clock + A)) = some (B, 0)) (h2 : state_Copy s = some s) (ht : t = { s with Barrier := B, Frozen := B.Number, Plan := p })
  (hk : replica_Replica_keep_g t ⟨s, v⟩ l d = some (0, ⟨t, v⟩, l', d')) : replica_Replica_Change_g p A ⟨s, v⟩ l d = some (0, ⟨t, v⟩, l', d') := by
 subst ht
 unfold replica_Replica_Change_g
 simp only
 rw [letM_eq, if_neg (by rw [h0]; simp), h1, obs, if_neg (by simp), h2, obs, letM_eq, letM_eq, letM_eq, hk, obs]
theorem awake_of {L : List TField} {S0 S1 S2 : YseS} {Q : YwgL → YdkD → Prop} (hL : ul18_one = some L) (ho : replica_Open_d 0 2 3 L 25600 = some (.inr (dnew 25600, ⟨S0, 3⟩, ⟨[]⟩)))
  (h1 : ∃ l1 d1, replica_Replica_Add_g (⟨#[97]⟩ : ByteArray) (-2) ⟨S0, 3⟩ ⟨[]⟩ (dnew 25600) = some (0, ⟨S1, 3⟩, l1, d1) ∧ Q l1 d1)
  (h2 : ∀ l1 d1, Q l1 d1 → ∃ l2 d2, replica_Replica_Change_g (⟨3, (⟨#[97]⟩ : ByteArray), (default : ByteArray), 0, 0⟩ : TPlan) 9 ⟨S1, 3⟩ l1 d1 = some (0, ⟨S2, 3⟩, l2, d2))
  (h3 : ∀ l d, replica_Replica_Read_g (⟨#[97]⟩ : ByteArray) ⟨S2, 3⟩ l d = some (3, 0, ⟨S2, 3⟩, l, d))
  (h4 : ∀ l d, replica_Replica_Add_g (⟨#[97]⟩ : ByteArray) 1 ⟨S2, 3⟩ l d = some (13, ⟨S2, 3⟩, l, d))
  (h5 : ∀ l d, ∃ m, replica_Replica_Say_g 1 3 ⟨S2, 3⟩ l d = some (m, ⟨S2, 3⟩, l, d) ∧ m.length = 2) : ul18_awake = some true := by
 unfold ul18_awake
 obtain ⟨l1, d1, e1, q⟩ := h1
 obtain ⟨l2, d2, e2⟩ := h2 l1 d1 q
 obtain ⟨m, hm, hl⟩ := h5 l2 d2
 simp only [hL, obs, ho, Sum.elim, e1, letM_eq, e2, h3, h4, hm, hl]
 simp
theorem awOpen : replica_Open_d 0 2 3 awL 25600 = some (.inr (dnew 25600, ⟨awS0, 3⟩, ⟨[]⟩)) := by
 rw [replica_Open_d_eq _ _ _ _ _ awSmall, if_pos awOk0]; rfl
theorem awStep1 : ∃ l1 d1, replica_Replica_Add_g awA (-2) ⟨awS0, 3⟩ ⟨[]⟩ (dnew 25600) = some (0, ⟨awS1, 3⟩, l1, d1) ∧ (d1.size = 25600 ∧ d1.b.length = 619 ∧ l1.all.length = 1) := by
 obtain ⟨l1, d1, k1, z1, b1, n1⟩ := keep_at (v := 3) (l := ⟨[]⟩) (d := dnew 25600) awSame1 awEnc1 (by decide) (by decide) (by decide) (by decide)
 exact ⟨l1, d1, add_of awFind awAdd awWith k1, z1, b1, n1⟩
theorem awStep2 (l1 : YwgL) (d1 : YdkD) (q : d1.size = 25600 ∧ d1.b.length = 619 ∧ l1.all.length = 1) : ∃ l2 d2, replica_Replica_Change_g awP 9 ⟨awS1, 3⟩ l1 d1 = some (0, ⟨awS2, 3⟩, l2, d2) := by
 obtain ⟨z1, b1, n1⟩ := q
 obtain ⟨l2, d2, k2, z2, b2, n2⟩ := keep_at (v := 3) (l := l1) (d := d1) awSame2 awEnc2 (by decide) (by rw [z1, b1]; decide) (by rw [z1]; decide) (by rw [n1]; decide)
 exact ⟨l2, d2, change_of awGuard awStart awCopy1 awS2_eq k2⟩
theorem awake18 : ul18_awake = some true := awake_of awL_eq awOpen awStep1 awStep2 awRead awAdd2 awSay
theorem does_nil_eq (a : Yl18D) : ∃ e, ul18_does_nil a = some e ∧ e ≠ 0 := by
 unfold ul18_does_nil replica_Replica_Add_nil replica_Replica_change_Replica_Add_1_nil replica_Replica_Hand_nil replica_Replica_there_nil replica_Replica_Reserve_nil replica_Replica_change_Replica_Reserve_1_nil replica_Replica_End_nil replica_Replica_change_Replica_End_1_nil replica_Replica_Write_nil replica_Replica_change_Replica_Write_1_nil replica_Replica_Pass_nil replica_Replica_there_nil replica_Replica_Tick_nil replica_Replica_Change_nil replica_Replica_Abort_nil replica_Replica_Message_nil
 simp only [obs]
 repeat' split
 all_goals exact ⟨_, rfl, by decide⟩
theorem ReplicaNobody_true (a1 : Yl18D) : ul18_ReplicaNobody a1 = some true := by
 unfold ul18_ReplicaNobody
 rw [few18_eq _ _ (by simp), obs, awake18]
 have hS : state_Same zeroSt zeroSt = some true := by decide +kernel
 obtain ⟨e, he, hne⟩ := does_nil_eq a1
 split
 ·rw [obs]
 ·unfold replica_Replica_Read_nil replica_Replica_Say_nil replica_Replica_State_nil
  rw [obs, he, obs, if_pos (by simp [hne]), obs, if_pos (by simp), letM_eq, obs, letM_eq]
  show Option.bind (state_Same zeroSt zeroSt) _ = _
  rw [hS, obs, gd_t rfl, obs]; rfl
end Go.Av
