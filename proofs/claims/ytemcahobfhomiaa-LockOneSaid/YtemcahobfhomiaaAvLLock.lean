/- What locks do: the plain laws. -/
import Derived.Test.YtemcahobfhomiaaAvMLock
import Derived.Test.YtemcahobfhomiaaAvCore14
namespace Go.Av
set_option linter.unusedSimpArgs false
set_option linter.unusedVariables false

def gtL (a b : Lock) : Prop := b.Seq < a.Seq ∨ (b.Seq = a.Seq ∧ (b.Ver < a.Ver ∨ (b.Ver = a.Ver ∧ (b.Holder < a.Holder ∨ (b.Holder = a.Holder ∧ b.Value < a.Value)))))
instance (a b : Lock) : Decidable (gtL a b) := by unfold gtL; infer_instance

theorem gtL_trans {a b c : Lock} (h : gtL a b) (k : gtL b c) : gtL a c := by unfold gtL at *; omega
theorem gtL_irr {a : Lock} : ¬ gtL a a := by unfold gtL; omega
theorem gtL_asym {a b : Lock} (h : gtL a b) : ¬ gtL b a := fun k => gtL_irr (gtL_trans h k)

theorem cmp_spec (a b : Lock) : (gtL a b ∧ cmpLock a b = 1) ∨ (a = b ∧ cmpLock a b = 0) ∨ (gtL b a ∧ cmpLock a b = -1) := by
  have hg : ∀ x y : Lock, gtL x y → cmpLock x y = 1 := by
    intro x y h
    simp only [cmpLock, lockPairs, cmpP]
    unfold gtL at h
    split <;> rename_i h1
    · split <;> rename_i h2
      · split <;> rename_i h3
        · split <;> rename_i h4
          · omega
          · rw [if_pos (by omega)]
        · rw [if_pos (by omega)]
      · rw [if_pos (by omega)]
    · rw [if_pos (by omega)]
  have hl : ∀ x y : Lock, gtL y x → cmpLock x y = -1 := by
    intro x y h
    simp only [cmpLock, lockPairs, cmpP]
    unfold gtL at h
    split <;> rename_i h1
    · split <;> rename_i h2
      · split <;> rename_i h3
        · split <;> rename_i h4
          · omega
          · rw [if_neg (by omega)]
        · rw [if_neg (by omega)]
      · rw [if_neg (by omega)]
    · rw [if_neg (by omega)]
  by_cases h : gtL a b
  · exact .inl ⟨h, hg a b h⟩
  · by_cases k : gtL b a
    · exact .inr (.inr ⟨k, hl a b k⟩)
    · have e : a = b := by rw [Lock.ext_iff]; unfold gtL at h k; omega
      subst e
      exact .inr (.inl ⟨rfl, by simp [cmpLock, lockPairs, cmpP]⟩)

theorem cmp_gt {a b : Lock} : cmpLock a b = 1 ↔ gtL a b := by
  rcases cmp_spec a b with ⟨h, e⟩ | ⟨h, e⟩ | ⟨h, e⟩
  · simp [e, h]
  · subst h; simp [e, gtL_irr]
  · have := gtL_asym h; simp [e, this]
theorem cmp_eq {a b : Lock} : cmpLock a b = 0 ↔ a = b := by
  rcases cmp_spec a b with ⟨h, e⟩ | ⟨h, e⟩ | ⟨h, e⟩
  · have : a ≠ b := fun x => gtL_irr (x ▸ h); simp [e, this]
  · exact ⟨fun _ => h, fun _ => e⟩
  · have : a ≠ b := fun x => gtL_irr (x ▸ h); simp [e, this]
theorem cmp_pos {a b : Lock} : 0 < cmpLock a b ↔ gtL a b := by
  rw [← cmp_gt]; rcases cmp_spec a b with ⟨h, e⟩ | ⟨h, e⟩ | ⟨h, e⟩ <;> simp [e]
theorem cmp_neg {a b : Lock} : cmpLock a b < 0 ↔ gtL b a := by
  rcases cmp_spec a b with ⟨h, e⟩ | ⟨h, e⟩ | ⟨h, e⟩
  · have := gtL_asym h; simp [e, this]
  · subst h; simp [e, gtL_irr]
  · simp [e, h]
theorem cmp_le {a b : Lock} : cmpLock a b ≤ 0 ↔ ¬ gtL a b := by rw [← cmp_pos]; omega
theorem cmp_ge {a b : Lock} : 0 ≤ cmpLock a b ↔ ¬ gtL b a := by rw [← cmp_neg]; omega
theorem gtL_tri (a b : Lock) : gtL a b ∨ a = b ∨ gtL b a := by
  rcases cmp_spec a b with ⟨h, _⟩ | ⟨h, _⟩ | ⟨h, _⟩ <;> simp [h]
theorem cmp_bd (a b : Lock) : -1 ≤ cmpLock a b ∧ cmpLock a b ≤ 1 := by rcases cmp_spec a b with ⟨_, e⟩ | ⟨_, e⟩ | ⟨_, e⟩ <;> omega
theorem cmp_swap (a b : Lock) : cmpLock b a = - cmpLock a b := by
  rcases cmp_spec a b with ⟨h, e⟩ | ⟨h, e⟩ | ⟨h, e⟩
  · rcases cmp_spec b a with ⟨k, e'⟩ | ⟨k, e'⟩ | ⟨k, e'⟩
    · exact absurd k (gtL_asym h)
    · subst k; exact absurd h gtL_irr
    · omega
  · subst h; omega
  · rcases cmp_spec b a with ⟨k, e'⟩ | ⟨k, e'⟩ | ⟨k, e'⟩
    · omega
    · subst k; exact absurd h gtL_irr
    · exact absurd k (gtL_asym h)

theorem lawLine (a b c : Lock) : (decide (cmpLock b a = IntKind.i64.wrap (0 - cmpLock a b)) && decide (cmpLock a b = 0) == eqV (encLock a) (encLock b) &&
      (decide (cmpLock a b < 0) || decide (cmpLock b c < 0) || decide (0 ≤ cmpLock a c)) &&
      (decide (cmpLock a b ≤ 0) || decide (cmpLock b c ≤ 0) || decide (0 < cmpLock a c)) && true) = true := by
  have hb := cmp_bd a b
  rw [wrap_id (by omega) (by omega)]
  have h1 : cmpLock b a = 0 - cmpLock a b := by have := cmp_swap a b; omega
  have h2 : (decide (cmpLock a b = 0) == eqV (encLock a) (encLock b)) = true := by
    rw [eq_encLock]; simp [cmp_eq]
  have h3 : (decide (cmpLock a b < 0) || decide (cmpLock b c < 0) || decide (0 ≤ cmpLock a c)) = true := by
    simp only [Bool.or_eq_true, decide_eq_true_eq, cmp_neg, cmp_ge]
    unfold gtL; omega
  have h4 : (decide (cmpLock a b ≤ 0) || decide (cmpLock b c ≤ 0) || decide (0 < cmpLock a c)) = true := by
    simp only [Bool.or_eq_true, decide_eq_true_eq, cmp_le, cmp_pos]
    unfold gtL; omega
  rw [h2, h3, h4]; simp [h1]

theorem behind_iff {a b : Lock} : behindLock a b = true ↔ gtL a b := by
  unfold behindLock gtL
  split
  · simp only [decide_eq_true_eq]; omega
  · split
    · simp only [decide_eq_true_eq]; omega
    · split <;> simp only [decide_eq_true_eq] <;> omega

theorem join_def (a b : Lock) : joinLock a b = if gtL b a then b else a := by
  unfold joinLock
  by_cases h : gtL b a
  · rw [if_pos (cmp_neg.2 h), if_pos h]
  · rw [if_neg (fun k => h (cmp_neg.1 k)), if_neg h]

theorem join_comm (a b : Lock) : joinLock a b = joinLock b a := by
  rw [join_def, join_def]
  rcases gtL_tri a b with h | h | h
  · rw [if_neg (gtL_asym h), if_pos h]
  · subst h; rfl
  · rw [if_pos h, if_neg (gtL_asym h)]

theorem join_assoc (a b c : Lock) : joinLock (joinLock a b) c = joinLock a (joinLock b c) := by
  simp only [join_def]
  by_cases h1 : gtL b a
  · by_cases h2 : gtL c b
    · have := gtL_trans h2 h1; simp [h1, h2, this]
    · simp [h1, h2]
  · by_cases h2 : gtL c b
    · simp [h1, h2]
    · have : ¬ gtL c a := by
        intro h3
        rcases gtL_tri a b with h | h | h
        · exact h2 (gtL_trans h3 h)
        · subst h; exact h2 h3
        · exact h1 h
      simp [h1, h2, this]

theorem join_self (a : Lock) : joinLock a a = a := by rw [join_def]; split <;> rfl
theorem join_left (a b : Lock) : ¬ gtL a (joinLock a b) := by
  rw [join_def]
  split
  · rename_i h; exact gtL_asym h
  · exact gtL_irr
theorem join_right (a b : Lock) : ¬ gtL b (joinLock a b) := by rw [join_comm]; exact join_left b a
theorem join_gt {a b : Lock} (h : gtL b a) : joinLock a b = b := by rw [join_def, if_pos h]

theorem lawJoins0 (a b : Lock) : ¬ (((eqV (encLock (joinLock a b)) (encLock (if behindLock b a = true then b else a)) = false ∨ (decide (0 < cmpLock a b) == behindLock a b) = false) ∨
      (decide (cmpLock a b < 0) == behindLock b a) = false) ∨ (decide (cmpLock a b = 0) == eqV (encLock a) (encLock b)) = false) := by
  have e : (if behindLock b a = true then b else a) = joinLock a b := by rw [join_def]; simp only [behind_iff]
  have h1 : ∀ x y : Lock, (decide (0 < cmpLock x y)) = behindLock x y := fun x y => by
    rw [Bool.eq_iff_iff, behind_iff, decide_eq_true_eq, cmp_pos]
  have h2 : decide (cmpLock a b < 0) = behindLock b a := by rw [Bool.eq_iff_iff, behind_iff, decide_eq_true_eq, cmp_neg]
  rw [e, h1, h2]
  simp [cmp_eq]

theorem lawJoins1 (a b c : Lock) : (eqV (encLock (joinLock a b)) (encLock (joinLock b a)) && eqV (encLock (joinLock (joinLock a b) c)) (encLock (joinLock a (joinLock b c))) && eqV (encLock (joinLock a a)) (encLock a) &&
      decide (0 ≤ cmpLock (joinLock a b) a) && decide (0 ≤ cmpLock (joinLock a b) b) && true) = true := by
  simp only [eq_encLock, join_comm b a, join_assoc, join_self, decide_true, Bool.and_eq_true, decide_eq_true_eq, cmp_ge]
  exact ⟨⟨⟨⟨⟨trivial, trivial⟩, trivial⟩, join_left a b⟩, join_right a b⟩, trivial⟩

theorem write_ok {l : Lock} {n : Int} (h : (writeLock l l.Holder n).2 = 0) : okAdd l.Ver 1 = true ∧ isN n = true ∧ (writeLock l l.Holder n).1 = { l with Ver := l.Ver + 1, Value := n } := by
  unfold writeLock at h ⊢
  by_cases c : okAdd l.Ver 1 = true ∧ isN n = true
  · simp [c]
  · simp [c] at h

theorem pass_ok {l : Lock} {k : Int} (h : (passLock l l.Holder k).2 = 0) : okAdd l.Seq 1 = true ∧ isR k = true ∧ (passLock l l.Holder k).1 = { l with Seq := l.Seq + 1, Ver := 0, Holder := k } := by
  unfold passLock at h ⊢
  by_cases c : isR k = false
  · simp [c] at h
  · by_cases d : okAdd l.Seq 1 = true
    · simp at c; simp [c, d]
    · simp [c, d] at h

theorem right_iff {l : Lock} : rightLock l = true ↔ 0 ≤ l.Seq ∧ isN l.Seq = true ∧ 0 ≤ l.Ver ∧ isN l.Ver = true ∧ isR l.Holder = true ∧ isN l.Value = true := by
  simp [rightLock, and_assoc]
theorem okAdd_iff {a b : Int} : okAdd a b = true ↔ isN a = true ∧ isN b = true ∧ isN (a + b) = true := by simp [okAdd, and_assoc]

theorem lawSteps2 {l : Lock} {k n : Int} (c0 : rightLock l = true) (c1 : k = l.Holder) : ¬ ((writeLock l k n).snd = 0 ∧ ((((cmpLock (writeLock l k n).fst l ≤ 0 ∨ rightLock (writeLock l k n).fst = false) ∨
      ¬(writeLock l k n).fst.Value = n) ∨ ¬(writeLock l k n).fst.Holder = l.Holder) ∨ eqV (encLock (joinLock l (writeLock l k n).fst)) (encLock (writeLock l k n).fst) = false)) := by
  subst c1
  rintro ⟨h, h'⟩
  obtain ⟨h1, h2, h3⟩ := write_ok h
  rw [h3] at h'
  obtain ⟨q1, q2, q3⟩ := okAdd_iff.1 h1
  obtain ⟨r1, r2, r3, r4, r5, r6⟩ := right_iff.1 c0
  have hg : gtL { l with Ver := l.Ver + 1, Value := n } l := by unfold gtL; simp; omega
  have hr : rightLock { l with Ver := l.Ver + 1, Value := n } = true := right_iff.2 ⟨r1, r2, by show 0 ≤ l.Ver + 1; omega, q3, r5, h2⟩
  rw [join_gt hg, cmp_le, hr, eq_encLock] at h'
  simp [hg] at h'

theorem lawSteps3 {l : Lock} {k to n : Int} (c0 : rightLock l = true) (c1 : k = l.Holder) : ¬ ((passLock l k to).snd = 0 ∧ ((((cmpLock (passLock l k to).fst l ≤ 0 ∨ rightLock (passLock l k to).fst = false) ∨
      ¬(passLock l k to).fst.Value = l.Value) ∨ ¬(passLock l k to).fst.Holder = to) ∨ (writeLock l k n).snd = 0 ∧ cmpLock (passLock l k to).fst (writeLock l k n).fst ≤ 0)) := by
  subst c1
  rintro ⟨h, h'⟩
  obtain ⟨h1, h2, h3⟩ := pass_ok h
  rw [h3] at h'
  obtain ⟨q1, q2, q3⟩ := okAdd_iff.1 h1
  obtain ⟨r1, r2, r3, r4, r5, r6⟩ := right_iff.1 c0
  have hg : gtL { l with Seq := l.Seq + 1, Ver := 0, Holder := to } l := by unfold gtL; simp; omega
  have hr : rightLock { l with Seq := l.Seq + 1, Ver := 0, Holder := to } = true := right_iff.2 ⟨by show 0 ≤ l.Seq + 1; omega, q3, by show (0 : Int) ≤ 0; omega, by show isN 0 = true; decide, h2, r6⟩
  rw [cmp_le, cmp_le, hr] at h'
  simp only [hg, not_true_eq_false, Bool.true_eq_false, or_self, false_or] at h'
  obtain ⟨k1, k2⟩ := h'
  obtain ⟨_, _, w3⟩ := write_ok k1
  rw [w3] at k2
  exact k2 (by unfold gtL; simp; omega)

theorem new_ok {h v : Int} (c : (newLock h v).2 = 0) : isR h = true ∧ isN v = true ∧ (newLock h v).1 = ⟨0, 0, h, v⟩ := by
  unfold newLock at c ⊢
  by_cases h1 : isR h = false
  · simp [h1] at c
  · by_cases h2 : isN v = false
    · simp [h1, h2] at c
    · simp at h1 h2; simp [h1, h2]

theorem isN_small {n : Int} (h : -1000000 ≤ n) (h' : n ≤ 1000000) : isN n = true := by simp [isN]; omega
theorem isR_iff {k : Int} : isR k = true ↔ 0 ≤ k ∧ k < 16 := by simp [isR]

theorem pass_some {i k v to : Int} (h0 : 0 ≤ i) (h1 : i ≤ 1000) (hk : isR to = true) : passLock ⟨i, 0, k, v⟩ k to = (⟨i + 1, 0, to, v⟩, 0) := by
  have h : okAdd i 1 = true := okAdd_iff.2 ⟨isN_small (by omega) (by omega), by decide, isN_small (by omega) (by omega)⟩
  unfold passLock
  simp [hk, h]

theorem lawPasses1 (l : Lock) {to : Int} (h : to < 0 ∨ 15 < to) : (decide ((passLock l l.Holder to).2 = 1) && eqV (encLock (passLock l l.Holder to).1) (encLock lock0) && true) = true := by
  have hr : isR to = false := by rw [← Bool.not_eq_true, isR_iff]; omega
  simp [passLock, hr]

theorem lawPasses2 {i k v to : Int} (hN : isN v = true) (h0 : 0 ≤ i) (h1 : i ≤ 1000) (hp : passLock ⟨i, 0, k, v⟩ k to = (⟨i + 1, 0, to, v⟩, 0)) :
    ¬ ((((((¬(passLock ⟨i, 0, k, v⟩ k to).snd = 0 ∨ ¬(passLock ⟨i, 0, k, v⟩ k to).fst.Seq = IntKind.i64.wrap (i + 1)) ∨ ¬(passLock ⟨i, 0, k, v⟩ k to).fst.Ver = 0) ∨
      ¬(passLock ⟨i, 0, k, v⟩ k to).fst.Value = v) ∨ ¬(passLock ⟨i, 0, k, v⟩ k to).fst.Holder = to) ∨
      (decide ((writeLock (passLock ⟨i, 0, k, v⟩ k to).fst k v).snd = 0) == decide (k = to)) = false) ∨
      eqV (encLock (joinLock ⟨i, 0, k, v⟩ (passLock ⟨i, 0, k, v⟩ k to).fst)) (encLock (passLock ⟨i, 0, k, v⟩ k to).fst) = false) := by
  have hg : gtL ⟨i + 1, 0, to, v⟩ ⟨i, 0, k, v⟩ := by unfold gtL; simp; omega
  have hw : (decide ((writeLock ⟨i + 1, 0, to, v⟩ k v).2 = 0) == decide (k = to)) = true := by
    unfold writeLock
    by_cases h : k = to
    · subst h
      simp [hN, okAdd, show isN 0 = true from by decide, show isN 1 = true from by decide]
    · simp [h]
  simp only [hp, wrap_id (show -9223372036854775808 ≤ i + 1 from by omega) (by omega), join_gt hg, hw, eq_encLock]
  simp

/-- Arguments of the laws. -/
abbrev tyLock : Ty := .st [.int .i64, .int .i64, .int .i64, .int .i64]
theorem dec_lock {v : V} (h : hasTy tyLock v) : ∃ l : Lock, v = encLock l := by
  simp only [hasTy, hasTys] at h
  obtain ⟨_, rfl, _, _, rfl, ⟨s, rfl, _⟩, _, _, rfl, ⟨v, rfl, _⟩, _, _, rfl, ⟨k, rfl, _⟩, _, _, rfl, ⟨n, rfl, _⟩, rfl⟩ := h
  exact ⟨⟨s, v, k, n⟩, rfl⟩
theorem dec3L {as : List V} (h : hasTys [tyLock, tyLock, tyLock] as) : ∃ a b c : Lock, as = [encLock a, encLock b, encLock c] := by
  simp only [hasTys] at h
  obtain ⟨_, _, rfl, h1, _, _, rfl, h2, _, _, rfl, h3, rfl⟩ := h
  obtain ⟨a, rfl⟩ := dec_lock h1
  obtain ⟨b, rfl⟩ := dec_lock h2
  obtain ⟨c, rfl⟩ := dec_lock h3
  exact ⟨a, b, c, rfl⟩

theorem decInts {e b : Nat} {v : V} (h : hasTy (.sl e b (.int .i64)) v) : ∃ xs : List Int, v = .sl e .no (xs.map (V.int .i64)) ∧ ∀ x ∈ xs, (Lit.int .i64 x).wf = true := by
  simp only [hasTy] at h
  obtain ⟨vs, rfl, _, _, h⟩ := h
  have := decList (f := V.int .i64) h
  obtain ⟨xs, rfl, hx⟩ := this
  exact ⟨xs, rfl, hx⟩
theorem decLIII {as : List V} (h : hasTys [tyLock, .int .i64, .int .i64, .int .i64] as) : ∃ (a : Lock) (k to n : Int), as = [encLock a, .int .i64 k, .int .i64 to, .int .i64 n] := by
  simp only [hasTys] at h
  obtain ⟨_, _, rfl, h1, _, _, rfl, h2, _, _, rfl, h3, _, _, rfl, h4, rfl⟩ := h
  obtain ⟨a, rfl⟩ := dec_lock h1
  simp only [hasTy] at h2 h3 h4
  obtain ⟨k, rfl, _⟩ := h2
  obtain ⟨to, rfl, _⟩ := h3
  obtain ⟨n, rfl, _⟩ := h4
  exact ⟨a, k, to, n, rfl⟩
theorem decIIL {b : Nat} {as : List V} (h : hasTys [.int .i64, .int .i64, .sl 1 b (.int .i64)] as) : ∃ (a v : Int) (xs : List Int), as = [.int .i64 a, .int .i64 v, .sl 1 .no (xs.map (V.int .i64))] := by
  simp only [hasTys] at h
  obtain ⟨_, _, rfl, h1, _, _, rfl, h2, _, _, rfl, h3, rfl⟩ := h
  obtain ⟨xs, rfl, _⟩ := decInts h3
  simp only [hasTy] at h1 h2
  obtain ⟨k, rfl, _⟩ := h1
  obtain ⟨to, rfl, _⟩ := h2
  exact ⟨k, to, xs, rfl⟩
end Go.Av
