/- A field that is made. -/
import Derived.Test.YtdbiobndihpccabAvLField
namespace Go.Av
set_option linter.unusedVariables false
set_option linter.unusedSimpArgs false

def only (d : Int) : Vector Int 16 := (default : Vector Int 16).set 0 d
def newC (i l h : Int) : TCounter := ⟨i, l, h, ⟨only (i - l), default, default⟩, ⟨only (h - i), default, default⟩⟩
def NewOk (i l h : Int) : Prop := IsN i ∧ IsN l ∧ IsN h ∧ l ≤ i ∧ i ≤ h ∧ IsN (h - l)
instance (i l h : Int) : Decidable (NewOk i l h) := by unfold NewOk; infer_instance
theorem counter_New_eq (i l h : Int) : counter_New i l h = some (if NewOk i l h then (newC i l h, 0) else (zeroC, 2)) := by
  unfold counter_New
  simp only [num_Sub_eq, letM_eq, Option.bind]
  by_cases hn : NewOk i l h
  · have hn' := hn
    unfold NewOk IsN at hn'
    have e1 : subS i l = (i - l, 0) := by unfold subS; rw [if_pos ⟨hn.1, hn.2.1, by unfold IsN; omega⟩]
    have e2 : subS h i = (h - i, 0) := by unfold subS; rw [if_pos ⟨hn.2.2.1, hn.1, by unfold IsN; omega⟩]
    have e3 : subS h l = (h - l, 0) := by unfold subS; rw [if_pos ⟨hn.2.2.1, hn.2.1, hn.2.2.2.2.2⟩]
    rw [e1, e2, e3, if_neg (by simp; omega), if_pos hn]
    rfl
  · rw [if_neg hn, if_pos]
    · rfl
    · by_cases h1 : (subS i l).2 = 0
      · by_cases h2 : (subS h i).2 = 0
        · by_cases h3 : (subS h l).2 = 0
          · have g1 : IsN i ∧ IsN l ∧ IsN (i - l) := Classical.byContradiction fun k => by unfold subS at h1; rw [if_neg k] at h1; cases h1
            have g2 : IsN h ∧ IsN i ∧ IsN (h - i) := Classical.byContradiction fun k => by unfold subS at h2; rw [if_neg k] at h2; cases h2
            have g3 : IsN h ∧ IsN l ∧ IsN (h - l) := Classical.byContradiction fun k => by unfold subS at h3; rw [if_neg k] at h3; cases h3
            have e1 : subS i l = (i - l, 0) := by unfold subS; rw [if_pos g1]
            have e2 : subS h i = (h - i, 0) := by unfold subS; rw [if_pos g2]
            rw [e1, e2]
            have : i - l < 0 ∨ h - i < 0 := Classical.byContradiction fun k => hn ⟨g1.1, g1.2.1, g2.1, by omega, by omega, g3.2.2⟩
            rcases this with k | k <;> simp [k]
          · simp [h3]
        · simp [h2]
      · simp [h1]

theorem only_list (d : Int) : (only d).toList = d :: List.replicate 15 0 := rfl
theorem zero_list : (default : Vector Int 16).toList = List.replicate 16 0 := rfl
theorem sum_zeros : ∀ (k : Nat) (n : Int), IsN n → sumO n (List.replicate k 0) = some n
  | 0, n, _ => rfl
  | k + 1, n, h => by
    have e : addS n 0 = (n, 0) := by unfold addS; rw [if_pos ⟨h, by unfold IsN; omega, by simpa using h⟩]; simp
    rw [List.replicate_succ, sumO, e, if_pos rfl]
    exact sum_zeros k n h
theorem sum_only {d : Int} (h : IsN d) : sumS (only d).toList = (d, 0) := by
  have e : addS 0 d = (d, 0) := by unfold addS; rw [if_pos ⟨by unfold IsN; omega, h, by simpa using h⟩]; simp
  unfold sumS
  rw [only_list, sumO, e, if_pos rfl, sum_zeros 15 d h]
theorem sum_zero : sumS (default : Vector Int 16).toList = (0, 0) := by
  unfold sumS
  rw [zero_list, sum_zeros 16 0 (by unfold IsN; omega)]
theorem VOk_zero : VOk (default : Vector Int 16) := by decide
theorem zrows : ∀ k : Fin 16, VOk ((default : Vector (Vector Int 16) 16).get k) ∧ ((default : Vector (Vector Int 16) 16).get k).get k = 0 := by decide
theorem ROk_only {d : Int} (h0 : 0 ≤ d) (h1 : IsN d) : ROk ⟨only d, default, default⟩ := by
  refine ⟨fun k => ?_, VOk_zero, zrows⟩
  show 0 ≤ (only d).get k ∧ (only d).get k ≤ 1099511627776
  have : (only d).get k = if k.1 = 0 then d else 0 := by
    rcases k with ⟨k, hk⟩
    match k, hk with
    | 0, _ => rfl
    | 1, _ => rfl
    | 2, _ => rfl
    | 3, _ => rfl
    | 4, _ => rfl
    | 5, _ => rfl
    | 6, _ => rfl
    | 7, _ => rfl
    | 8, _ => rfl
    | 9, _ => rfl
    | 10, _ => rfl
    | 11, _ => rfl
    | 12, _ => rfl
    | 13, _ => rfl
    | 14, _ => rfl
    | 15, _ => rfl
    | n + 16, hk => exact absurd hk (by omega)
  rw [this]
  unfold IsN at h1
  split <;> omega
theorem gives_new {d : Int} (h : IsN d) : gives (only d) (default : Vector Int 16) d := by
  unfold gives
  rw [sum_only h, sum_zero]
  have e : addS d 0 = (d, 0) := by unfold addS; rw [if_pos ⟨h, by unfold IsN; omega, by simpa using h⟩]; simp
  simp only [e]
  exact ⟨trivial, trivial, trivial, trivial⟩
theorem COk_new {i l h : Int} (hn : NewOk i l h) : COk (newC i l h) := by
  have hn' := hn
  unfold NewOk IsN at hn'
  have d1 : IsN (i - l) := by unfold IsN; omega
  have d2 : IsN (h - i) := by unfold IsN; omega
  exact ⟨hn.1, hn.2.1, hn.2.2.1, hn.2.2.2.1, hn.2.2.2.2.1, ROk_only (by omega) d1, ROk_only (by omega) d2, gives_new d1, gives_new d2⟩

theorem field_done_eq (f : TField) (e : Int) (hh : f.Holds.length ≤ 1000000000000) : field_done f e = some (if e = 0 then (f, 0) else (default, e)) := by
  unfold field_done
  by_cases h : e = 0
  · rw [if_neg (by simp [h]), if_pos h, app_of (by simp; omega)]; rfl
  · rw [if_pos (by simp [h]), if_neg h]; rfl
def fieldC (s : ByteArray) (i l h : Int) : TField × Int := if NameOk s then (if NewOk i l h then (⟨s, 1, 0, newC i l h, zeroL, []⟩, 0) else (default, 2)) else (default, 1)
theorem field_Counter_eq (s : ByteArray) (i l h : Int) (hs : s.size ≤ 1000000000000000) : field_Counter s i l h = some (fieldC s i l h) := by
  unfold field_Counter fieldC
  rw [counter_New_eq, field_Name_eq s hs]
  simp only [Option.bind, letM_eq]
  by_cases h1 : NameOk s
  · rw [if_neg (by simp [h1]), if_pos h1]
    by_cases h2 : NewOk i l h
    · rw [if_pos h2, if_pos h2, field_done_eq _ _ (by simp)]; rfl
    · rw [if_neg h2, if_neg h2, field_done_eq _ _ (by simp)]; rfl
  · rw [if_pos (by simp [h1]), if_neg h1, field_done_eq _ _ (by simp)]; rfl
def LNewOk (k v : Int) : Prop := (0 ≤ k ∧ k < 16) ∧ IsN v
instance (k v : Int) : Decidable (LNewOk k v) := by unfold LNewOk; infer_instance
def fieldL (s : ByteArray) (k v : Int) : TField × Int := if NameOk s then (if LNewOk k v then (⟨s, 2, 0, zeroC, ⟨0, 0, k, v⟩, []⟩, 0) else (default, if 0 ≤ k ∧ k < 16 then 2 else 1)) else (default, 1)
theorem lock_is_eq (k : Int) : lock_is k = some (decide (0 ≤ k ∧ k < 16)) := sd (by simp)
theorem field_Lock_eq (s : ByteArray) (k v : Int) (hs : s.size ≤ 1000000000000000) : field_Lock s k v = some (fieldL s k v) := by
  have hnew : lock_New k v = some (if 0 ≤ k ∧ k < 16 then (if IsN v then (⟨0, 0, k, v⟩, 0) else (zeroL, 2)) else (zeroL, 1)) := by
    unfold lock_New
    rw [lock_is_eq]
    simp only [Option.bind, num_Is_eq, letM_eq]
    by_cases h1 : 0 ≤ k ∧ k < 16
    · rw [if_neg (by simp [h1]), if_pos h1]
      by_cases h2 : IsN v
      · rw [if_neg (by simp [h2]), if_pos h2]
      · rw [if_pos (by simp [h2]), if_neg h2]; rfl
    · rw [if_pos (by rw [decide_eq_false h1]; rfl), if_neg h1]; rfl
  unfold field_Lock fieldL
  rw [hnew, field_Name_eq s hs]
  simp only [Option.bind, letM_eq]
  by_cases h1 : NameOk s
  · rw [if_neg (by simp [h1]), if_pos h1]
    by_cases h2 : 0 ≤ k ∧ k < 16
    · by_cases h3 : IsN v
      · rw [if_pos h2, if_pos h3, if_pos ⟨h2, h3⟩, field_done_eq _ _ (by simp)]; rfl
      · rw [if_pos h2, if_neg h3, if_neg (fun x => h3 x.2), field_done_eq _ _ (by simp), if_pos h2]; rfl
    · rw [if_neg h2, if_neg (fun x => h2 x.1), field_done_eq _ _ (by simp), if_neg h2]; rfl
  · rw [if_pos (by simp [h1]), if_neg h1, field_done_eq _ _ (by simp)]; rfl
end Go.Av
