/- What locks do: the plain laws. -/
import Derived.Test.YtemcahobfhomiaaAvMLock
import Derived.Test.YtemcahobfhomiaaAvCore14
namespace Go.Av
set_option linter.unusedSimpArgs false
set_option linter.unusedVariables false

def gtL (a b : Lock) : Prop := b.Seq < a.Seq ∨ (b.Seq = a.Seq ∧ (b.Ver < a.Ver ∨ (b.Ver = a.Ver ∧ (b.Holder < a.Holder ∨ (b.Holder = a.Holder ∧ b.Value < a.Value)))))
instance (a b : Lock) : Decidable (gtL a b) := by unfold gtL; infer_instance

theorem gtL_trans {a b c : Lock} (h : gtL a b) (k : gtL b c) : gtL a c := by unfold gtL at *; omega
theorem gtL_irr {a : Lock} : ¬ gtL a a := by unfold gtL; omega
theorem gtL_asym {a b : Lock} (h : gtL a b) : ¬ gtL b a := fun k => gtL_irr (gtL_trans h k)

theorem cmp_spec (a b : Lock) : (gtL a b ∧ cmpLock a b = 1) ∨ (a = b ∧ cmpLock a b = 0) ∨ (gtL b a ∧ cmpLock a b = -1) := by
  have hg : ∀ x y : Lock, gtL x y → cmpLock x y = 1 := by
    intro x y h
    simp only [cmpLock, lockPairs, cmpP]
    unfold gtL at h
    split <;> rename_i h1
    · split <;> rename_i h2
      · split <;> rename_i h3
        · split <;> rename_i h4
          · omega
          · rw [if_pos (by omega)]
        · rw [if_pos (by omega)]
      · rw [if_pos (by omega)]
    · rw [if_pos (by omega)]
  have hl : ∀ x y : Lock, gtL y x → cmpLock x y = -1 := by
    intro x y h
    simp only [cmpLock, lockPairs, cmpP]
    unfold gtL at h
    split <;> rename_i h1
    · split <;> rename_i h2
      · split <;> rename_i h3
        · split <;> rename_i h4
          · omega
          · rw [if_neg (by omega)]
        · rw [if_neg (by omega)]
      · rw [if_neg (by omega)]
    · rw [if_neg (by omega)]
  by_cases h : gtL a b
  · exact .inl ⟨h, hg a b h⟩
  · by_cases k : gtL b a
    · exact .inr (.inr ⟨k, hl a b k⟩)
    · have e : a = b := by rw [Lock.ext_iff]; unfold gtL at h k; omega
      subst e
      exact .inr (.inl ⟨rfl, by simp [cmpLock, lockPairs, cmpP]⟩)

theorem cmp_gt {a b : Lock} : cmpLock a b = 1 ↔ gtL a b := by
  rcases cmp_spec a b with ⟨h, e⟩ | ⟨h, e⟩ | ⟨h, e⟩
  · simp [e, h]
  · subst h; simp [e, gtL_irr]
  · have := gtL_asym h; simp [e, this]
theorem cmp_eq {a b : Lock} : cmpLock a b = 0 ↔ a = b := by
  rcases cmp_spec a b with ⟨h, e⟩ | ⟨h, e⟩ | ⟨h, e⟩
  · have : a ≠ b := fun x => gtL_irr (x ▸ h); simp [e, this]
  · exact ⟨fun _ => h, fun _ => e⟩
  · have : a ≠ b := fun x => gtL_irr (x ▸ h); simp [e, this]
theorem cmp_pos {a b : Lock} : 0 < cmpLock a b ↔ gtL a b := by
  rw [← cmp_gt]; rcases cmp_spec a b with ⟨h, e⟩ | ⟨h, e⟩ | ⟨h, e⟩ <;> simp [e]
theorem cmp_neg {a b : Lock} : cmpLock a b < 0 ↔ gtL b a := by
  rcases cmp_spec a b with ⟨h, e⟩ | ⟨h, e⟩ | ⟨h, e⟩
  · have := gtL_asym h; simp [e, this]
  · subst h; simp [e, gtL_irr]
  · simp [e, h]
theorem cmp_le {a b : Lock} : cmpLock a b ≤ 0 ↔ ¬ gtL a b := by rw [← cmp_pos]; omega
theorem cmp_ge {a b : Lock} : 0 ≤ cmpLock a b ↔ ¬ gtL b a := by rw [← cmp_neg]; omega
theorem gtL_tri (a b : Lock) : gtL a b ∨ a = b ∨ gtL b a := by
  rcases cmp_spec a b with ⟨h, _⟩ | ⟨h, _⟩ | ⟨h, _⟩ <;> simp [h]
theorem cmp_bd (a b : Lock) : -1 ≤ cmpLock a b ∧ cmpLock a b ≤ 1 := by rcases cmp_spec a b with ⟨_, e⟩ | ⟨_, e⟩ | ⟨_, e⟩ <;> omega
theorem cmp_swap (a b : Lock) : cmpLock b a = - cmpLock a b := by
  rcases cmp_spec a b with ⟨h, e⟩ | ⟨h, e⟩ | ⟨h, e⟩
  · rcases cmp_spec b a with ⟨k, e'⟩ | ⟨k, e'⟩ | ⟨k, e'⟩
    · exact absurd k (gtL_asym h)
    · subst k; exact absurd h gtL_irr
    · omega
  · subst h; omega
  · rcases cmp_spec b a with ⟨k, e'⟩ | ⟨k, e'⟩ | ⟨k, e'⟩
    · omega
    · subst k; exact absurd h gtL_irr
    · exact absurd k (gtL_asym h)

theorem lawLine (a b c : Lock) : (decide (cmpLock b a = IntKind.i64.wrap (0 - cmpLock a b)) && decide (cmpLock a b = 0) == eqV (encLock a) (encLock b) &&
      (decide (cmpLock a b < 0) || decide (cmpLock b c < 0) || decide (0 ≤ cmpLock a c)) &&
      (decide (cmpLock a b ≤ 0) || decide (cmpLock b c ≤ 0) || decide (0 < cmpLock a c)) && true) = true := by
  have hb := cmp_bd a b
  rw [wrap_id (by omega) (by omega)]
  have h1 : cmpLock b a = 0 - cmpLock a b := by have := cmp_swap a b; omega
  have h2 : (decide (cmpLock a b = 0) == eqV (encLock a) (encLock b)) = true := by
    rw [eq_encLock]; simp [cmp_eq]
  have h3 : (decide (cmpLock a b < 0) || decide (cmpLock b c < 0) || decide (0 ≤ cmpLock a c)) = true := by
    simp only [Bool.or_eq_true, decide_eq_true_eq, cmp_neg, cmp_ge]
    unfold gtL; omega
  have h4 : (decide (cmpLock a b ≤ 0) || decide (cmpLock b c ≤ 0) || decide (0 < cmpLock a c)) = true := by
    simp only [Bool.or_eq_true, decide_eq_true_eq, cmp_le, cmp_pos]
    unfold gtL; omega
  rw [h2, h3, h4]; simp [h1]

/-- Arguments of the laws. -/
abbrev tyLock : Ty := .st [.int .i64, .int .i64, .int .i64, .int .i64]
theorem dec_lock {v : V} (h : hasTy tyLock v) : ∃ l : Lock, v = encLock l := by
  simp only [hasTy, hasTys] at h
  obtain ⟨_, rfl, _, _, rfl, ⟨s, rfl, _⟩, _, _, rfl, ⟨v, rfl, _⟩, _, _, rfl, ⟨k, rfl, _⟩, _, _, rfl, ⟨n, rfl, _⟩, rfl⟩ := h
  exact ⟨⟨s, v, k, n⟩, rfl⟩
theorem dec3L {as : List V} (h : hasTys [tyLock, tyLock, tyLock] as) : ∃ a b c : Lock, as = [encLock a, encLock b, encLock c] := by
  simp only [hasTys] at h
  obtain ⟨_, _, rfl, h1, _, _, rfl, h2, _, _, rfl, h3, rfl⟩ := h
  obtain ⟨a, rfl⟩ := dec_lock h1
  obtain ⟨b, rfl⟩ := dec_lock h2
  obtain ⟨c, rfl⟩ := dec_lock h3
  exact ⟨a, b, c, rfl⟩
end Go.Av
