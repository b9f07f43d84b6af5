/- What is made may be, and has its value. -/
import Derived.Test.YtdbiobndihpccabAvLFieldM
namespace Go.Av
set_option linter.unusedVariables false
set_option linter.unusedSimpArgs false

theorem foldl_app {α : Type} (g : Nat → α) : ∀ (n : Nat) (l : List α), (List.range n).foldl (fun s i => s ++ [g i]) l = l ++ (List.range n).map g
  | 0, l => by simp
  | n + 1, l => by rw [List.range_succ, List.foldl_append, foldl_app g n l]; simp
def negs (v : Vector Int 16) : List Int := (List.range 16).map fun i => wr .i64 (0 - at16 v i)
def valL (c : TCounter) : List Int := [c.Init] ++ c.Up.Used.toList ++ negs c.Down.Used
theorem counter_Value_eq (c : TCounter) : counter_Value c = some (sumS (valL c)) := by
  unfold counter_Value
  rw [app_of (by simp)]
  simp only [Option.bind]
  have hlen : ([c.Init] ++ c.Up.Used.toList).length = 17 := by simp
  have hv : (valL c).length ≤ 1000000000000 := by simp [valL, negs]
  rw [(loop_fold 16 (by omega) (fun s i => s ++ [wr .i64 (0 - at16 c.Down.Used i)]) id (fun i s => s.length = 17 + i) hlen (fun i s hi hJ => ⟨?_, by simp; omega⟩) (fun s _ => by simp [counter_Value_L1])).1]
  · simp only [id]
    rw [foldl_app]
    rw [show [c.Init] ++ c.Up.Used.toList ++ (List.range 16).map (fun i => wr .i64 (0 - at16 c.Down.Used i)) = valL c from rfl, num_Sum_eq _ hv]
  · have e : at16 c.Down.Used i = c.Down.Used.get ⟨i, hi⟩ := by unfold at16; rw [dif_pos hi]
    simp only [counter_Value_L1, fix_of hi, Option.bind]
    rw [if_pos (by simp; omega), app_of (by simp; omega)]
    simp only [wr_succ (show i < 1000000000000000 by omega), e]
theorem value_new {i l h : Int} (hn : NewOk i l h) : counter_Value (newC i l h) = some (i, 0) := by
  rw [counter_Value_eq]
  have e : valL (newC i l h) = i :: (List.replicate 16 0 ++ List.replicate 16 0) := by
    have : negs (default : Vector Int 16) = List.replicate 16 0 := by decide
    show [i] ++ (default : Vector Int 16).toList ++ negs (default : Vector Int 16) = _
    rw [this, zero_list]; rfl
  have e2 : addS 0 i = (i, 0) := by unfold addS; rw [if_pos ⟨by unfold IsN; omega, hn.1, by simpa using hn.1⟩]; simp
  rw [e, List.replicate_append_replicate]
  unfold sumS
  rw [sumO, e2, if_pos rfl, sum_zeros _ i hn.1]
theorem cnt_zero : cnt 0 := by decide
theorem view_none : field_View default = some (0, 17) := by decide
theorem same_none : field_Same default default = some true := by decide +kernel
theorem name_none : ¬ NameOk default := fun h => by have := h.2.1; exact absurd this (by decide)

theorem FieldMakes_true (a1 : ByteArray) (a2 a3 a4 : Int) : usufructlaw07_FieldMakes a1 a2 a3 a4 = some true := by
  unfold usufructlaw07_FieldMakes
  by_cases hc : 100 < (a1.size : Int)
  · rw [if_pos (by simp [hc]), awake7_eq]; rfl
  · rw [if_neg (by simp [hc]), field_Counter_eq _ _ _ _ (by omega), field_Lock_eq _ _ _ (by omega)]
    simp only [Option.bind]
    rw [ref_Name_eq _ (by omega)]
    by_cases hn : NameOk a1
    · have hv1 : ∃ x, field_View (fieldC a1 a2 a3 a4).1 = some x ∧ ((fieldC a1 a2 a3 a4).2 = 0 → x.1 = a2 ∧ (fieldC a1 a2 a3 a4).1.Name = a1) := by
        unfold fieldC
        rw [if_pos hn]
        by_cases h : NewOk a2 a3 a4
        · rw [if_pos h]
          refine ⟨(a2, 0), ?_, fun _ => ⟨rfl, rfl⟩⟩
          simp only [field_View, decide_true, if_true, value_new h, Option.bind]
        · rw [if_neg h]
          exact ⟨(0, 17), view_none, fun k => by cases k⟩
      have hv2 : ∃ x, field_View (fieldL a1 a3 a2).1 = some x ∧ ((fieldL a1 a3 a2).2 = 0 → x.1 = a2 ∧ (fieldL a1 a3 a2).1.Lock.Holder = a3) := by
        unfold fieldL
        rw [if_pos hn]
        by_cases h : LNewOk a3 a2
        · rw [if_pos h]
          exact ⟨(a2, 0), by simp [field_View], fun _ => ⟨rfl, rfl⟩⟩
        · rw [if_neg h]
          refine ⟨(0, 17), view_none, fun k => ?_⟩
          simp only at k
          split at k <;> cases k
      have hr1 : usufructref07_Right (fieldC a1 a2 a3 a4).1 = some (decide ((fieldC a1 a2 a3 a4).2 = 0)) := by
        unfold fieldC
        rw [if_pos hn]
        by_cases h : NewOk a2 a3 a4
        · rw [if_pos h, ref07_Right_eq _ (by simp only; omega) (by simp)]
          refine sd ?_
          simp only [decide_eq_true_eq, iff_true]
          exact ⟨hn, cnt_zero, .inl ⟨rfl, COk_new h, ⟨by simp, by simp, by simp⟩, rfl⟩⟩
        · rw [if_neg h, ref07_Right_eq _ (by decide) (by decide)]
          refine sd ?_
          simp only [decide_eq_true_eq]
          exact ⟨fun k => (name_none k.1).elim, fun k => by cases k⟩
      have hr2 : usufructref07_Right (fieldL a1 a3 a2).1 = some (decide ((fieldL a1 a3 a2).2 = 0)) := by
        unfold fieldL
        rw [if_pos hn]
        by_cases h : LNewOk a3 a2
        · rw [if_pos h, ref07_Right_eq _ (by simp only; omega) (by simp)]
          refine sd ?_
          simp only [decide_eq_true_eq, iff_true]
          exact ⟨hn, cnt_zero, .inr ⟨rfl, ⟨cnt_zero, cnt_zero, h.1.1, by have := h.1.2; simp only; omega, h.2⟩, rfl, rfl⟩⟩
        · rw [if_neg h, ref07_Right_eq _ (by simp only; decide) (by simp only; decide)]
          refine sd ?_
          simp only [decide_eq_true_eq]
          refine ⟨fun k => (name_none k.1).elim, fun k => ?_⟩
          split at k <;> cases k
      obtain ⟨x, hx, hx2⟩ := hv1
      obtain ⟨y, hy, hy2⟩ := hv2
      rw [hx, hy]
      simp only []
      rw [if_neg (by simp [hn]), hr1]
      simp only [beq_self_eq_true]
      rw [gd_t trivial, hr2]
      simp only [beq_self_eq_true, Bool.and_self, Bool.true_and, letM_eq]
      have k1 : ((!decide ((fieldC a1 a2 a3 a4).2 = 0)) || ((decide (x.1 = a2)) && (decide ((fieldC a1 a2 a3 a4).1.Name = a1)))) = true := by
        by_cases h : (fieldC a1 a2 a3 a4).2 = 0
        · obtain ⟨p, q⟩ := hx2 h
          simp [h, p, q]
        · simp [h]
      have k2 : ((!decide ((fieldL a1 a3 a2).2 = 0)) || ((decide (y.1 = a2)) && (decide ((fieldL a1 a3 a2).1.Lock.Holder = a3)))) = true := by
        by_cases h : (fieldL a1 a3 a2).2 = 0
        · obtain ⟨p, q⟩ := hy2 h
          simp [h, p, q]
        · simp [h]
      rw [k1, k2]
      simp only [Bool.and_self]
      rw [gd_t trivial, awake7_eq]; rfl
    · have e1 : fieldC a1 a2 a3 a4 = (default, 1) := by unfold fieldC; rw [if_neg hn]
      have e2 : fieldL a1 a3 a2 = (default, 1) := by unfold fieldL; rw [if_neg hn]
      rw [e1, e2, show (⟨(default : ByteArray), 0, 0, (default : TCounter), (default : TLock), ([] : List THold)⟩ : TField) = default from rfl]
      simp only [view_none]
      rw [if_pos (by simp [hn])]
      simp only [decide_true, Bool.and_self, same_none, awake7_eq]
      rw [gd_t trivial]
      simp only [Bool.and_self]
      rw [gd_t trivial]
      simp only [Bool.and_self]
      rw [gd_t trivial]; rfl
end Go.Av
