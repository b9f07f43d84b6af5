/- Vectors, rights and counters that may be. -/
import Derived.Test.YtdbiobndihpccabAvLNum
import Derived.Test.YtdbiobndihpccabAvLHold
namespace Go.Av
set_option linter.unusedVariables false
set_option linter.unusedSimpArgs false

def VOk (v : Vector Int 16) : Prop := ∀ k : Fin 16, 0 ≤ v.get k ∧ v.get k ≤ 1099511627776
instance (v : Vector Int 16) : Decidable (VOk v) := by unfold VOk; infer_instance
def at16 (v : Vector Int 16) (i : Nat) : Int := if h : i < 16 then v.get ⟨i, h⟩ else 0
theorem VOk_iff (v : Vector Int 16) : (∀ i, i < 16 → 0 ≤ at16 v i ∧ at16 v i ≤ 1099511627776) ↔ VOk v := by
  constructor
  · intro h k
    have := h k.1 k.2
    unfold at16 at this
    rw [dif_pos k.2] at this
    exact this
  · intro h i hi
    unfold at16
    rw [dif_pos hi]
    exact h ⟨i, hi⟩
theorem ref02_Right_eq (v : Vector Int 16) : usufructref02_Right v = some (decide (VOk v)) := by
  unfold usufructref02_Right
  rw [loop_all 16 (by omega) (fun i => 0 ≤ at16 v i ∧ at16 v i ≤ 1099511627776) false () (fun i hi => ?_) (by simp [usufructref02_Right_L1])]
  · by_cases h : VOk v
    · rw [if_pos ((VOk_iff v).2 h), decide_eq_true h]; rfl
    · rw [if_neg (fun k => h ((VOk_iff v).1 k)), decide_eq_false h]; rfl
  · have e : at16 v i = v.get ⟨i, hi⟩ := by unfold at16; rw [dif_pos hi]
    simp only [usufructref02_Right_L1, fix_of hi, Option.bind, e]
    rw [if_pos (by simp; omega)]
    simp only [wr_succ (show i < 1000000000000000 by omega)]
    by_cases h1 : v.get ⟨i, hi⟩ < 0
    · rw [gd_f (by rw [decide_eq_true h1]; decide)]
      simp only []
      rw [if_pos (by rw [decide_eq_true h1]; rfl), if_neg (by omega)]
    · rw [gd_t (by rw [decide_eq_false h1])]
      simp only []
      by_cases h2 : 1099511627776 < v.get ⟨i, hi⟩
      · rw [if_pos (by rw [decide_eq_true h2]; simp), if_neg (by omega)]
      · rw [if_neg (by rw [decide_eq_false h1, decide_eq_false h2]; decide), if_pos (by omega)]
theorem ref02_Sum_eq (v : Vector Int 16) : usufructref02_Sum v = some (sumS v.toList) := by
  unfold usufructref02_Sum
  rw [ref_Sum_eq1 _ (by simp)]; rfl

def ROk (r : TRights) : Prop := VOk r.Given ∧ VOk r.Used ∧ ∀ k : Fin 16, VOk (r.Moved.get k) ∧ (r.Moved.get k).get k = 0
instance (r : TRights) : Decidable (ROk r) := by unfold ROk; infer_instance
def row (r : TRights) (i : Nat) : Prop := ∀ h : i < 16, VOk (r.Moved.get ⟨i, h⟩) ∧ (r.Moved.get ⟨i, h⟩).get ⟨i, h⟩ = 0
instance (r : TRights) (i : Nat) : Decidable (row r i) := by unfold row; infer_instance
theorem ref03_Right_eq (r : TRights) : usufructref03_Right r = some (decide (ROk r)) := by
  unfold usufructref03_Right
  rw [ref02_Right_eq, ref02_Right_eq]
  have hb : ∀ b : Bool, loopM (usufructref03_Right_L1 r) fuel (0, b) = some (b && decide (∀ i : Nat, i < 16 → row r i)) := fun b => by
    refine loopM_eq (fun i s => s = ((i : Int), b && decide (∀ j, j < i → row r j))) 16 (by omega) _ ?_ ?_ (by simp)
    · rintro i s hi rfl
      refine .inl ⟨_, ?_, rfl⟩
      have hsucc : (∀ j, j < i + 1 → row r j) ↔ (∀ j, j < i → row r j) ∧ row r i :=
        ⟨fun h => ⟨fun j hj => h j (by omega), h i (by omega)⟩, fun h j hj => by rcases Nat.lt_succ_iff_lt_or_eq.1 hj with h2 | rfl; exact h.1 j h2; exact h.2⟩
      have hrow : row r i ↔ VOk (r.Moved.get ⟨i, hi⟩) ∧ (r.Moved.get ⟨i, hi⟩).get ⟨i, hi⟩ = 0 := ⟨fun h => h hi, fun h _ => h⟩
      simp only [usufructref03_Right_L1, fix_of hi, Option.bind]
      rw [if_pos (by simp; omega)]
      simp only [wr_succ (show i < 1000000000000000 by omega), letM_eq]
      generalize hB : (b && decide (∀ j, j < i → row r j)) = B
      have hR : (b && decide (∀ j, j < i + 1 → row r j)) = (B && decide (row r i)) := by
        rw [← hB]
        apply Bool.eq_iff_iff.2
        simp only [Bool.and_eq_true, decide_eq_true_eq, hsucc]
        exact ⟨fun h => ⟨⟨h.1, h.2.1⟩, h.2.2⟩, fun h => ⟨h.1.1, h.1.2, h.2⟩⟩
      rw [hR]
      cases B with
      | false => simp [gd]
      | true =>
        rw [gd_t rfl]
        simp only []
        rw [gd_t trivial, ref02_Right_eq]
        simp only [Bool.true_and]
        by_cases h1 : VOk (r.Moved.get ⟨i, hi⟩)
        · rw [gd_t (decide_eq_true h1)]
          simp only []
          by_cases h2 : (r.Moved.get ⟨i, hi⟩).get ⟨i, hi⟩ = 0
          · rw [decide_eq_true h1, decide_eq_true h2, decide_eq_true (hrow.2 ⟨h1, h2⟩)]; rfl
          · rw [decide_eq_false h2, decide_eq_false (fun k => h2 (hrow.1 k).2), Bool.and_false]
        · rw [gd_f (by rw [decide_eq_false h1]; decide)]
          simp only []
          rw [decide_eq_false h1, decide_eq_false (fun k => h1 (hrow.1 k).1)]; rfl
    · rintro s rfl
      simp [usufructref03_Right_L1]
  have hrows : (∀ i : Nat, i < 16 → row r i) ↔ ∀ k : Fin 16, VOk (r.Moved.get k) ∧ (r.Moved.get k).get k = 0 :=
    ⟨fun h k => h k.1 k.2 k.2, fun h i hi _ => h ⟨i, hi⟩⟩
  simp only [Option.bind, gd_and]
  rw [hb]
  refine sd ?_
  simp only [Bool.and_eq_true, Bool.if_false_right, decide_eq_true_eq, hrows]
  unfold ROk
  exact ⟨fun h => ⟨h.1.1, h.1.2.2, h.2⟩, fun h => ⟨⟨h.1, h.1, h.2.1⟩, h.2.2⟩⟩

/-- What was given is what must be. -/
def gives (g u : Vector Int 16) (room : Int) : Prop := (sumS g.toList).2 = 0 ∧ (sumS u.toList).2 = 0 ∧ (addS room (sumS u.toList).1).2 = 0 ∧ (sumS g.toList).1 = (addS room (sumS u.toList).1).1
instance (g u : Vector Int 16) (room : Int) : Decidable (gives g u room) := by unfold gives; infer_instance
def COk (c : TCounter) : Prop := IsN c.Init ∧ IsN c.Low ∧ IsN c.High ∧ c.Low ≤ c.Init ∧ c.Init ≤ c.High ∧ ROk c.Down ∧ ROk c.Up ∧ gives c.Down.Given c.Up.Used (c.Init - c.Low) ∧ gives c.Up.Given c.Down.Used (c.High - c.Init)
instance (c : TCounter) : Decidable (COk c) := by unfold COk; infer_instance
theorem gd_nb {p : Prop} [Decidable p] {b : Bool} : gd p (some b) = some (if p then b else false) := by by_cases h : p <;> simp [gd, h]
theorem ref04_Right_eq (c : TCounter) : usufructref04_Right c = some (decide (COk c)) := by
  unfold usufructref04_Right
  simp only [ref_Is_eq, ref03_Right_eq, ref02_Sum_eq, ref_Add_eq, Option.bind, gd_nb, letM_eq]
  by_cases h : IsN c.Init ∧ IsN c.Low ∧ IsN c.High ∧ c.Low ≤ c.Init ∧ c.Init ≤ c.High ∧ ROk c.Down ∧ ROk c.Up
  · obtain ⟨h1, h2, h3, h4, h5, h6, h7⟩ := h
    have w1 : wr .i64 (c.Init - c.Low) = c.Init - c.Low := wr_id (by unfold IsN at *; omega)
    have w2 : wr .i64 (c.High - c.Init) = c.High - c.Init := wr_id (by unfold IsN at *; omega)
    rw [if_neg (by simp [h1, h2, h3, h6, h7]; omega), w1, w2]
    refine sd ?_
    simp only [Bool.and_eq_true, decide_eq_true_eq, and_assoc]
    unfold COk gives
    constructor
    · rintro ⟨a, b, d, e, f, g, i, j⟩
      exact ⟨h1, h2, h3, h4, h5, h6, h7, ⟨a, b, d, i⟩, e, f, g, j⟩
    · rintro ⟨_, _, _, _, _, _, _, ⟨a, b, d, i⟩, e, f, g, j⟩
      exact ⟨a, b, d, e, f, g, i, j⟩
  · have hn : ¬ COk c := fun k => h ⟨k.1, k.2.1, k.2.2.1, k.2.2.2.1, k.2.2.2.2.1, k.2.2.2.2.2.1, k.2.2.2.2.2.2.1⟩
    rw [if_pos, decide_eq_false hn]
    by_cases h1 : IsN c.Init <;> by_cases h2 : IsN c.Low <;> by_cases h3 : IsN c.High <;> by_cases h4 : c.Init < c.Low <;> by_cases h5 : c.High < c.Init <;> by_cases h6 : ROk c.Down <;> by_cases h7 : ROk c.Up <;> simp [h1, h2, h3, h4, h5, h6, h7]
    exact h ⟨h1, h2, h3, by omega, by omega, h6, h7⟩
end Go.Av
