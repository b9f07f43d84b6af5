/- Sums and differences that tell when they are too great. -/
import Derived.Test.YtdbiobndihpccabAvLNum0
namespace Go.Av
set_option linter.unusedVariables false
set_option linter.unusedSimpArgs false

theorem checked_eq (a : Int) (l : List Int) (hl : l.length ≤ 1000000000000) : num_checked a l = some (if ∀ x ∈ l ++ [a], IsN x then (a, 0) else (0, 2)) := by
  unfold num_checked
  rw [app_of (by simp; omega)]
  simp only [Option.bind]
  have hn : (l ++ [a]).length ≤ 1000000000000000 := by simp; omega
  generalize l ++ [a] = m at hn
  rw [loop_all m.length hn (fun i => IsN (m.getD i default)) (0, 2) () (fun i hi => ?_) (by simp [num_checked_L1])]
  · by_cases h : ∀ x ∈ m, IsN x
    · rw [if_pos (fun i hi => h _ (by simp [List.getD, hi])), if_pos h]; rfl
    · rw [if_neg (fun h2 => h fun x hx => by obtain ⟨i, hi, rfl⟩ := List.getElem_of_mem hx; simpa [List.getD, hi] using h2 i hi), if_neg h]; rfl
  · simp only [num_checked_L1, six_of hi, num_Is_eq, Option.bind]
    rw [if_pos (by simp; omega)]
    simp only [wr_succ (show i < 1000000000000000 by omega)]
    by_cases h : IsN (m.getD i default)
    · rw [if_neg (by rw [decide_eq_true h]; decide), if_pos h]
    · rw [if_pos (by rw [decide_eq_false h]; rfl), if_neg h]

def addS (a b : Int) : Int × Int := if IsN a ∧ IsN b ∧ IsN (a + b) then (a + b, 0) else (0, 2)
def subS (a b : Int) : Int × Int := if IsN a ∧ IsN b ∧ IsN (a - b) then (a - b, 0) else (0, 2)
theorem num_Add_eq (a b : Int) : num_Add a b = some (addS a b) := by
  unfold num_Add addS
  rw [checked_eq _ _ (by simp)]
  simp only [Option.bind]
  by_cases h : IsN a ∧ IsN b
  · have hw : wr .i64 (a + b) = a + b := wr_id (by unfold IsN at h; omega)
    rw [hw]
    by_cases h2 : IsN (a + b)
    · rw [if_pos (by simp [h.1, h.2, h2]), if_pos ⟨h.1, h.2, h2⟩]
    · rw [if_neg (by simp [h.1, h.2, h2]), if_neg (fun x => h2 x.2.2)]
  · rw [if_neg (fun x => h ⟨x a (by simp), x b (by simp)⟩), if_neg (fun x => h ⟨x.1, x.2.1⟩)]
theorem num_Sub_eq (a b : Int) : num_Sub a b = some (subS a b) := by
  unfold num_Sub subS
  rw [checked_eq _ _ (by simp)]
  simp only [Option.bind]
  by_cases h : IsN a ∧ IsN b
  · have hw : wr .i64 (a - b) = a - b := wr_id (by unfold IsN at h; omega)
    rw [hw]
    by_cases h2 : IsN (a - b)
    · rw [if_pos (by simp [h.1, h.2, h2]), if_pos ⟨h.1, h.2, h2⟩]
    · rw [if_neg (by simp [h.1, h.2, h2]), if_neg (fun x => h2 x.2.2)]
  · rw [if_neg (fun x => h ⟨x a (by simp), x b (by simp)⟩), if_neg (fun x => h ⟨x.1, x.2.1⟩)]
theorem ref_Add_eq (a b : Int) : usufructref01_Add a b = some (addS a b) := by
  unfold usufructref01_Add addS
  simp only [ref_Is_eq, Option.bind]
  by_cases h1 : IsN a
  · rw [gd_t (by rw [decide_eq_true h1]; rfl)]
    simp only []
    by_cases h2 : IsN b
    · have hw : wr .i64 (a + b) = a + b := wr_id (by unfold IsN at h1 h2; omega)
      rw [hw, gd_t (by rw [decide_eq_true h1, decide_eq_true h2]; rfl)]
      simp only []
      by_cases h3 : IsN (a + b)
      · rw [if_neg (by rw [decide_eq_true h1, decide_eq_true h2, decide_eq_true h3]; decide), if_pos ⟨h1, h2, h3⟩]
      · rw [if_pos (by rw [decide_eq_false h3]; simp), if_neg (fun x => h3 x.2.2)]
    · rw [gd_f (by rw [decide_eq_false h2]; simp)]
      simp only []
      rw [if_pos (by rw [decide_eq_false h2]; simp), if_neg (fun x => h2 x.2.1)]
  · rw [gd_f (by rw [decide_eq_false h1]; decide)]
    simp only []
    rw [gd_f (by rw [decide_eq_false h1]; simp)]
    simp only []
    rw [if_pos (by rw [decide_eq_false h1]; simp), if_neg (fun x => h1 x.1)]

/-- All, added; none, if it is too great on the way. -/
def sumO : Int → List Int → Option Int
  | n, [] => some n
  | n, x :: t => if (addS n x).2 = 0 then sumO (addS n x).1 t else none
def sumS (l : List Int) : Int × Int := match sumO 0 l with | some n => (n, 0) | none => (0, 2)
theorem addS_err (a b : Int) (h : (addS a b).2 ≠ 0) : (addS a b).2 = 2 := by
  by_cases hc : IsN a ∧ IsN b ∧ IsN (a + b)
  · rw [addS, if_pos hc] at h; exact (h rfl).elim
  · rw [addS, if_neg hc]
theorem sum_loop' (l : List Int) {ρ : Type} {body : Int × Int → Option ((Int × Int) ⊕ ρ)} (fin : Int → Option ρ) (er : Option ρ)
    (hb : ∀ (i : Nat) (n : Int), i < l.length → body ((i : Int), n) = if (addS n (l.getD i default)).2 = 0 then some (.inl ((((i + 1 : Nat)) : Int), (addS n (l.getD i default)).1)) else er.map .inr) (hf : ∀ n, body ((l.length : Int), n) = (fin n).map .inr) :
    ∀ (k i : Nat) (n : Int), i + k = l.length → ∀ m, k < m → loopM body m ((i : Int), n) = match sumO n (l.drop i) with | some n => fin n | none => er
  | k, i, n, hk, 0, hm => by omega
  | 0, i, n, hk, m + 1, hm => by
    obtain rfl : i = l.length := by omega
    rw [List.drop_length]
    simp only [loopM, hf, sumO]
    cases fin n <;> rfl
  | k + 1, i, n, hk, m + 1, hm => by
    have hi : i < l.length := by omega
    have hd : l.drop i = l.getD i default :: l.drop (i + 1) := by rw [List.drop_eq_getElem_cons hi]; simp [List.getD, hi]
    rw [hd, sumO]
    simp only [loopM, hb i n hi]
    by_cases h : (addS n (l.getD i default)).2 = 0
    · rw [if_pos h, if_pos h]
      exact sum_loop' l fin er hb hf k (i + 1) _ (by omega) m (by omega)
    · rw [if_neg h, if_neg h]
      cases er <;> rfl
theorem sum_loop (l : List Int) (hl : l.length ≤ 1000000000000) {ρ : Type} {body : Int × Int → Option ((Int × Int) ⊕ ρ)} (fin : Int → Option ρ) (er : Option ρ)
    (hb : ∀ (i : Nat) (n : Int), i < l.length → body ((i : Int), n) = if (addS n (l.getD i default)).2 = 0 then some (.inl ((((i + 1 : Nat)) : Int), (addS n (l.getD i default)).1)) else er.map .inr) (hf : ∀ n, body ((l.length : Int), n) = (fin n).map .inr) :
    loopM body fuel (0, 0) = match sumO 0 l with | some n => fin n | none => er :=
  sum_loop' l fin er hb hf l.length 0 0 (by omega) fuel (by have := fuel_big; omega)
theorem ref_Sum_eq1 (l : List Int) (hl : l.length ≤ 1000000000000) : usufructref01_Sum l = some (sumS l) := by
  unfold usufructref01_Sum sumS
  rw [sum_loop l hl (fun n => some (.inl n : Int ⊕ (Int × Int))) (some (.inr (0, 2))) (fun i n hi => ?_) (fun n => by simp [usufructref01_Sum_L1])]
  · cases sumO 0 l <;> rfl
  · simp only [usufructref01_Sum_L1, six_of hi, ref_Add_eq, Option.bind]
    rw [if_pos (by simp; omega)]
    simp only [wr_succ (show i < 1000000000000000 by omega)]
    by_cases h : (addS n (l.getD i default)).2 = 0
    · rw [if_neg (by rw [decide_eq_true h]; decide), if_pos h]
    · rw [if_pos (by rw [decide_eq_false h]; rfl), if_neg h, addS_err _ _ h]; rfl
theorem num_Sum_eq (l : List Int) (hl : l.length ≤ 1000000000000) : num_Sum l = some (sumS l) := by
  have h1 : num_Sum_1 l = sumO 0 l := by
    unfold num_Sum_1
    rw [sum_loop l hl (fun n => some n) none (fun i n hi => ?_) (fun n => by simp [num_Sum_1_L1])]
    · cases sumO 0 l <;> rfl
    · simp only [num_Sum_1_L1, six_of hi, num_Add_eq, num_Must, Option.bind]
      rw [if_pos (by simp; omega)]
      simp only [wr_succ (show i < 1000000000000000 by omega)]
      by_cases h : (addS n (l.getD i default)).2 = 0
      · rw [if_neg (by rw [decide_eq_true h]; decide), if_pos h]
      · rw [if_pos (by rw [decide_eq_false h]; rfl), if_neg h]; rfl
  have h2 : num_Sum_P l = match sumO 0 l with | some _ => none | none => some 2 := by
    unfold num_Sum_P
    rw [sum_loop l hl (fun n => none) (some 2) (fun i n hi => ?_) (fun n => by simp [num_Sum_P_L1])]
    simp only [num_Sum_P_L1, six_of hi, num_Add_eq, Option.bind]
    rw [if_pos (by simp; omega)]
    simp only [wr_succ (show i < 1000000000000000 by omega)]
    by_cases h : (addS n (l.getD i default)).2 = 0
    · rw [if_pos (by rw [decide_eq_true h]), if_pos h]
    · rw [if_neg (by rw [decide_eq_false h]; decide), if_neg h, addS_err _ _ h]; rfl
  unfold num_Sum sumS
  rw [h1, h2]
  cases sumO 0 l <;> rfl
end Go.Av
