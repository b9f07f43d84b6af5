/- Fields: names, what is made. -/
import Derived.Test.YtdbiobndihpccabAvLVec
namespace Go.Av
set_option linter.unusedVariables false
set_option linter.unusedSimpArgs false

theorem awake7_eq : usufructlaw07_awake = some true := by decide +kernel

def bAt (s : ByteArray) (i : Nat) : Int := (bix s (i : Int)).getD 0
theorem bix_of {s : ByteArray} {i : Nat} (h : i < s.size) : bix s (i : Int) = some (bAt s i) := by
  unfold bAt bix
  rw [dif_pos (by omega)]
  rfl
def NameOk (s : ByteArray) : Prop := (∀ i : Nat, i < s.size → 33 ≤ bAt s i ∧ bAt s i ≤ 126) ∧ 1 ≤ s.size ∧ s.size ≤ 8
instance (s : ByteArray) : Decidable (NameOk s) := by unfold NameOk; infer_instance
theorem ref_Name_eq (s : ByteArray) (hs : s.size ≤ 1000000000000000) : usufructref07_Name s = some (decide (NameOk s)) := by
  unfold usufructref07_Name
  rw [loop_all s.size hs (fun i => 33 ≤ bAt s i ∧ bAt s i ≤ 126) false () (fun i hi => ?_) (by simp [usufructref07_Name_L1])]
  · by_cases h : ∀ i : Nat, i < s.size → 33 ≤ bAt s i ∧ bAt s i ≤ 126
    · rw [if_pos h]
      refine sd ?_
      simp only [NameOk, Bool.and_eq_true, decide_eq_true_eq]
      exact ⟨fun k => ⟨h, by omega, by omega⟩, fun k => ⟨by omega, by omega⟩⟩
    · rw [if_neg h, decide_eq_false (p := NameOk s) (fun k => h k.1)]; rfl
  · simp only [usufructref07_Name_L1, bix_of hi, Option.bind]
    rw [if_pos (by simp; omega)]
    simp only [wr_succ (show i < 1000000000000000 by omega)]
    by_cases h1 : bAt s i < 33
    · rw [gd_f (by rw [decide_eq_true h1]; decide)]
      simp only []
      rw [if_pos (by rw [decide_eq_true h1]; rfl), if_neg (by omega)]
    · rw [gd_t (by rw [decide_eq_false h1])]
      simp only []
      by_cases h2 : 126 < bAt s i
      · rw [if_pos (by rw [decide_eq_true h2]; simp), if_neg (by omega)]
      · rw [if_neg (by rw [decide_eq_false h1, decide_eq_false h2]; decide), if_pos (by omega)]
theorem field_Name_eq (s : ByteArray) (hs : s.size ≤ 1000000000000000) : field_Name s = some (decide (NameOk s)) := by
  unfold field_Name
  rw [loop_all s.size hs (fun i => 33 ≤ bAt s i ∧ bAt s i ≤ 126) false () (fun i hi => ?_) (by simp [field_Name_L1])]
  · by_cases h : ∀ i : Nat, i < s.size → 33 ≤ bAt s i ∧ bAt s i ≤ 126
    · rw [if_pos h]
      refine sd ?_
      simp only [NameOk, Bool.and_eq_true, decide_eq_true_eq]
      exact ⟨fun k => ⟨h, by omega, by omega⟩, fun k => ⟨by omega, by omega⟩⟩
    · rw [if_neg h, decide_eq_false (p := NameOk s) (fun k => h k.1)]; rfl
  · simp only [field_Name_L1, bix_of hi, Option.bind]
    rw [if_pos (by simp; omega)]
    simp only [wr_succ (show i < 1000000000000000 by omega)]
    by_cases h1 : bAt s i < 33
    · rw [gd_f (by rw [decide_eq_true h1]; decide)]
      simp only []
      rw [if_pos (by rw [decide_eq_true h1]; rfl), if_neg (by omega)]
    · rw [gd_t (by rw [decide_eq_false h1])]
      simp only []
      by_cases h2 : 126 < bAt s i
      · rw [if_pos (by rw [decide_eq_true h2]; simp), if_neg (by omega)]
      · rw [if_neg (by rw [decide_eq_false h1, decide_eq_false h2]; decide), if_pos (by omega)]

def cnt (x : Int) : Prop := 0 ≤ x ∧ IsN x
instance (x : Int) : Decidable (cnt x) := by unfold cnt; infer_instance
def LOk (l : TLock) : Prop := cnt l.Seq ∧ cnt l.Ver ∧ 0 ≤ l.Holder ∧ l.Holder ≤ 15 ∧ IsN l.Value
instance (l : TLock) : Decidable (LOk l) := by unfold LOk; infer_instance
theorem ref05_Right_eq (l : TLock) : usufructref05_Right l = some (decide (LOk l)) := by
  unfold usufructref05_Right
  simp only [ref_Is_eq, gd_and, letM_eq, Option.bind]
  refine sd ?_
  simp only [Bool.and_eq_true, Bool.if_false_right, decide_eq_true_eq]
  unfold LOk cnt IsN
  omega

def zeroC : TCounter := ⟨0, 0, 0, default, default⟩
def zeroL : TLock := ⟨0, 0, 0, 0⟩
def FOk (f : TField) : Prop := NameOk f.Name ∧ cnt f.Epoch ∧ ((f.Kind = 1 ∧ COk f.Counter ∧ Rts f.Holds ∧ f.Lock = zeroL) ∨ (f.Kind = 2 ∧ LOk f.Lock ∧ f.Holds = [] ∧ f.Counter = zeroC))
instance (f : TField) : Decidable (FOk f) := by unfold FOk; infer_instance
theorem ref07_Right_eq (f : TField) (hs : f.Name.size ≤ 1000000000000000) (hh : f.Holds.length ≤ 1000000000000) : usufructref07_Right f = some (decide (FOk f)) := by
  unfold usufructref07_Right
  simp only [ref_Name_eq _ hs, ref_Is_eq, Option.bind, gd_nb, letM_eq, ref04_Right_eq, ref_Rights_eq f.Holds (by omega), ref05_Right_eq]
  by_cases h : NameOk f.Name ∧ cnt f.Epoch
  · obtain ⟨h1, h2⟩ := h
    have h3 : ¬ f.Epoch < 0 := by unfold cnt at h2; omega
    rw [if_neg (by simp [h1, h2.2, h3])]
    by_cases hk : f.Kind = 1
    · rw [if_pos (by simp [hk])]
      refine sd ?_
      simp only [Bool.and_eq_true, decide_eq_true_eq, Bool.if_false_right]
      unfold FOk
      constructor
      · rintro ⟨⟨a, b, c⟩, d⟩
        exact ⟨h1, h2, .inl ⟨hk, a, c, d⟩⟩
      · rintro ⟨_, _, ⟨_, a, b, c⟩ | ⟨a, _⟩⟩
        · exact ⟨⟨a, a, b⟩, c⟩
        · omega
    · rw [if_neg (by simp [hk])]
      refine sd ?_
      simp only [Bool.and_eq_true, decide_eq_true_eq, Bool.if_false_right]
      unfold FOk
      have hz : ((f.Holds.length : Int) = 0) ↔ f.Holds = [] := by
        rw [← List.length_eq_zero_iff]; omega
      rw [hz]
      constructor
      · rintro ⟨⟨⟨a, a', b⟩, c⟩, d⟩
        exact ⟨h1, h2, .inr ⟨a, b, c, d⟩⟩
      · rintro ⟨_, _, ⟨a, _⟩ | ⟨a, b, c, d⟩⟩
        · omega
        · exact ⟨⟨⟨a, a, b⟩, c⟩, d⟩
  · have hn : ¬ FOk f := fun k => h ⟨k.1, k.2.1⟩
    rw [if_pos, decide_eq_false hn]
    by_cases h1 : NameOk f.Name <;> by_cases h2 : f.Epoch < 0 <;> by_cases h3 : IsN f.Epoch <;> simp [h1, h2, h3]
    exact h ⟨h1, by unfold cnt; exact ⟨by omega, h3⟩⟩
end Go.Av
