/- What the laws of holds ask, answered. -/
import Derived.Test.YtohkehlomnfimaaAvLHold3
namespace Go.Av
set_option linter.unusedVariables false
set_option linter.unusedSimpArgs false

theorem ex_ok {r t : Int} {h : THold} : HOk (ex r t h) ↔ HOk h := by
  unfold ex
  split
  · rename_i hd
    have : h.State = 1 := by simp only [due, Bool.and_eq_true, decide_eq_true_eq] at hd; exact hd.1.2
    unfold HOk Cnt; simp only; omega
  · exact Iff.rfl
theorem ex_rep (r t : Int) (h : THold) : (ex r t h).Replica = h.Replica := by unfold ex; split <;> rfl
theorem ex_num (r t : Int) (h : THold) : (ex r t h).Number = h.Number := by unfold ex; split <;> rfl
theorem ex_lt {r t : Int} {a b : THold} : HLt (ex r t a) (ex r t b) ↔ HLt a b := by unfold HLt; rw [ex_rep, ex_rep, ex_num, ex_num]
theorem ex_Rts {r t : Int} {l : List THold} (h : Rts l) : Rts (l.map (ex r t)) := by
  refine ⟨fun x hx => ?_, ?_, by simpa using h.2.2⟩
  · obtain ⟨y, hy, rfl⟩ := List.mem_map.1 hx; exact ex_ok.2 (h.1 y hy)
  · rw [List.pairwise_map]; exact h.2.1.imp fun {a b} k => ex_lt.2 k
theorem ex_ex {r t u : Int} (htu : t ≤ u) (h : THold) : ex r u (ex r t h) = ex r u h ∧ (if due r t h = true then 1 else 0) + (if due r u (ex r t h) = true then 1 else 0) = (if due r u h = true then 1 else 0) := by
  by_cases h1 : due r t h = true
  · have h2 : due r u h = true := by simp only [due, Bool.and_eq_true, decide_eq_true_eq] at h1 ⊢; omega
    have h3 : ex r t h = { h with State := 3 } := by rw [ex, if_pos h1]
    have h4 : due r u (ex r t h) = false := by rw [h3]; simp [due]
    have h5 : ex r u (ex r t h) = ex r t h := by rw [ex, h4]; rfl
    rw [h5, h4, h3]
    exact ⟨by rw [ex, if_pos h2], by rw [if_pos h1, if_pos h2]; rfl⟩
  · have h3 : ex r t h = h := by rw [ex, if_neg h1]
    rw [h3, if_neg h1]
    exact ⟨rfl, by omega⟩
theorem ex_count {r t u : Int} (htu : t ≤ u) : ∀ l : List THold, l.countP (due r t) + (l.map (ex r t)).countP (due r u) = l.countP (due r u)
  | [] => rfl
  | h :: l => by
    have := ex_count (r := r) htu l
    have := (ex_ex (r := r) htu h).2
    simp only [List.map_cons, List.countP_cons]
    omega
theorem Exp_len (l : List THold) (r t : Int) : (Exp l r t).1.length = l.length := by unfold Exp; split <;> simp
theorem Exp_at (l : List THold) (r t : Int) (i : Nat) (hi : i < l.length) : (Exp l r t).1.getD i default = l.getD i default ∨ due r t (l.getD i default) = true := by
  unfold Exp
  split
  · by_cases h : due r t (l.getD i default) = true
    · exact .inr h
    · refine .inl ?_
      have e : ex r t (l.getD i default) = l.getD i default := by rw [ex, if_neg h]
      rw [List.getD, List.getElem?_map, List.getElem?_eq_getElem hi]
      rw [List.getD, List.getElem?_eq_getElem hi] at e
      simpa [List.getD, hi] using e
  · exact .inl rfl
theorem Exp_Exp {l : List THold} {r t u : Int} (htu : t ≤ u) : (Exp (Exp l r t).1 r u).1 = (Exp l r u).1 ∧ (Exp l r t).2 + (Exp (Exp l r t).1 r u).2 = (Exp l r u).2 := by
  by_cases h : Rts l
  · have e1 : ∀ t, Exp l r t = (l.map (ex r t), (l.countP (due r t) : Int)) := fun t => by unfold Exp; rw [if_pos h]
    have e2 : Exp (l.map (ex r t)) r u = ((l.map (ex r t)).map (ex r u), ((l.map (ex r t)).countP (due r u) : Int)) := by unfold Exp; rw [if_pos (ex_Rts h)]
    rw [e1, e1, e2]
    refine ⟨?_, ?_⟩
    · simp only [List.map_map]
      refine List.map_congr_left fun x _ => (ex_ex htu x).1
    · have := ex_count (r := r) htu l
      simp only; omega
  · have e1 : ∀ t, Exp l r t = (l, 0) := fun t => by unfold Exp; rw [if_neg h]
    rw [e1, e1]
    simp only [e1]
    exact ⟨trivial, rfl⟩
theorem Exp_count (l : List THold) (r t : Int) : 0 ≤ (Exp l r t).2 ∧ (Exp l r t).2 ≤ l.length := by
  unfold Exp
  split
  · have : l.countP (due r t) ≤ l.length := List.countP_le_length
    simp only; omega
  · simp only; omega

theorem HoldTime_true (a1 : List THold) (a2 a3 a4 : Int) : usufructlaw06_HoldTime a1 a2 a3 a4 = some true := by
  unfold usufructlaw06_HoldTime
  rw [Few1]
  simp only [Option.bind]
  by_cases hc : a1.length ≤ 40 ∧ a3 ≤ a4
  · rw [if_neg (by simp [hc.1]; omega)]
    have h0 := hc.1
    have hl := Exp_len a1 a2 a3
    rw [hold_Expire_eq _ _ _ (by omega)]
    simp only []
    rw [hold_Expire_eq _ _ _ (by omega), hold_Expire_eq _ _ _ (by omega)]
    simp only [letM_eq]
    obtain ⟨e1, e2⟩ := Exp_Exp (l := a1) (r := a2) hc.2
    have b1 := Exp_count a1 a2 a3
    have b2 := Exp_count a1 a2 a4
    have b3 : wr .i64 ((Exp a1 a2 a3).2 + (Exp (Exp a1 a2 a3).1 a2 a4).2) = (Exp a1 a2 a4).2 := by rw [e2, wr_id (by omega)]
    simp only [b3, hl, decide_true, Bool.not_true, Bool.or_self]
    rw [gd_t trivial, Same_eq _ _ (by rw [e1, Exp_len]; omega)]
    simp only [e1, decide_true, Bool.not_true, Bool.or_self]
    rw [if_neg Bool.false_ne_true]
    rw [loop_all a1.length (by omega) (fun _ => True) false () (fun i hi => ?_) (by simp [usufructlaw06_HoldTime_L1])]
    · simp [awake_eq]
    · simp only [usufructlaw06_HoldTime_L1, six_of hi, letM_eq, Option.bind, six_of (hl ▸ hi : i < (Exp a1 a2 a3).1.length)]
      rw [if_pos (by simp; omega)]
      simp only [wr_succ (show i < 1000000000000000 by omega)]
      rw [if_neg]
      · simp
      · rcases Exp_at a1 a2 a3 i hi with h | h
        · simp only [h, decide_true, Bool.not_true, Bool.false_and]; exact Bool.false_ne_true
        · simp only [due, Bool.and_eq_true, decide_eq_true_eq] at h
          simp only [h.1.1, h.1.2, decide_true, Bool.not_true, Bool.false_or, Bool.or_false, Bool.and_eq_true, decide_eq_true_eq]
          omega
  · rw [if_pos]
    · rw [awake_eq]
    · by_cases h : a1.length ≤ 40 <;> simp [h] at hc ⊢; omega

theorem HoldDoes_true (a1 : List THold) (a2 a3 a4 : Int) : usufructlaw06_HoldDoes a1 a2 a3 a4 = some true := by
  unfold usufructlaw06_HoldDoes
  rw [Few1]
  simp only [Option.bind]
  by_cases hc : a1.length ≤ 40
  · rw [if_neg (by simp [hc]), app_of (by simp; omega)]
    simp only [List.nil_append]
    rw [hold_Reserve_eq _ _ _ _ (by omega), ref_Reserve_eq _ _ _ _ (by omega), hold_End_eq _ _ _ _ (by omega), ref_End_eq _ _ _ _ (by omega), hold_Expire_eq _ _ _ (by omega), ref_Expire_eq _ _ _ (by omega)]
    simp only [letM_eq]
    have hr : (ResS a1 a2 a3 a4).1.length ≤ 1000000000000000 := by
      unfold ResS; split
      · split
        · simp
        · rw [putS_length]; omega
      · simp
    have he : (EndS a1 a2 a3 a4).1.length ≤ 1000000000000000 := by
      unfold EndS; split
      · split
        · simp
        · split
          · simp; omega
          · simp
      · simp
    rw [Same_eq _ _ hr]
    simp only [decide_true, Bool.and_self]
    rw [gd_t trivial, Same_eq _ _ he]
    simp only [decide_true, Bool.and_self]
    rw [gd_t trivial, Same_eq _ _ (by rw [Exp_len]; omega)]
    simp only [decide_true, Bool.and_self]
    rw [gd_t trivial, Same_eq _ _ (by omega)]
    simp only [decide_true, Bool.and_self]
    rw [gd_t trivial, awake_eq]
    rfl
  · rw [if_pos (by simp [hc]), awake_eq]

def tstep (r n : Int) (s : Bool × THold) (h : THold) : Bool × THold := if ((!s.1) && isK r n h) = true then (true, h) else s
theorem tells_stay (r n : Int) (x : THold) : ∀ l : List THold, l.foldl (tstep r n) (true, x) = (true, x)
  | [] => rfl
  | h :: l => tells_stay r n x l
theorem tells_fold (r n : Int) : ∀ l : List THold, l.foldl (tstep r n) (false, default) = ((Fnd l r n).2, (Fnd l r n).1)
  | [] => rfl
  | h :: l => by
    have ih := tells_fold r n l
    by_cases hk : isK r n h = true
    · have : tstep r n (false, default) h = (true, h) := by simp [tstep, hk]
      rw [List.foldl_cons, this, tells_stay]
      simp [Fnd, List.findIdx?_cons, hk, List.getD]
    · have : tstep r n (false, default) h = (false, default) := by simp [tstep, hk]
      rw [List.foldl_cons, this, ih]
      unfold Fnd
      rw [List.findIdx?_cons, if_neg hk]
      cases l.findIdx? (isK r n) <;> rfl

theorem HoldTells_true (a1 : List THold) (a2 a3 : Int) : usufructlaw06_HoldTells a1 a2 a3 = some true := by
  unfold usufructlaw06_HoldTells
  rw [Few1]
  simp only [Option.bind]
  by_cases hc : a1.length ≤ 40
  · rw [if_neg (by simp [hc])]
    rw [(loop_fold a1.length (by omega) (fun s i => tstep a2 a3 s (a1.getD i default)) Sum.inl (fun _ _ => True) trivial (fun i s hi _ => ⟨?_, trivial⟩) (fun s _ => by simp [usufructlaw06_HoldTells_L1])).1]
    · simp only [onS_l]
      rw [foldl_range_list a1 default (tstep a2 a3) _, tells_fold, hold_Find_eq _ _ _ (by omega), hold_Rights_eq _ (by omega), ref_Rights_eq _ (by omega)]
      simp only [decide_true, beq_self_eq_true, Bool.and_self, Bool.true_and]
      rw [gd_t trivial]
      simp only []
      by_cases h : Rts a1
      · simp only [h, decide_true, Bool.not_true]
        rw [gd_t ⟨trivial, trivial⟩, gd_t ⟨trivial, trivial⟩, hold_Sum_eq _ _ (by omega), ref_Sum_eq _ _ (by omega)]
        simp [awake_eq]
      · simp only [h, decide_false, Bool.not_false]
        rw [gd_f (by simp), gd_f (by simp)]
        simp [awake_eq]
    · simp only [usufructlaw06_HoldTells_L1, six_of hi, letM_eq, Option.bind, hold_Right_eq, ref_Right_eq]
      rw [if_pos (by simp; omega)]
      simp only [wr_succ (show i < 1000000000000000 by omega), beq_self_eq_true, Bool.not_true]
      rw [if_neg Bool.false_ne_true]
      unfold tstep isK
      rw [Bool.and_assoc]
      split <;> rfl
  · rw [if_pos (by simp [hc]), awake_eq]

theorem ex_isK (r t : Int) (a b : Int) (h : THold) : isK a b (ex r t h) = isK a b h := by unfold isK; rw [ex_rep, ex_num]
theorem HoldStays_true (a1 : List THold) (a2 a3 a4 : Int) : usufructlaw06_HoldStays a1 a2 a3 a4 = some true := by
  unfold usufructlaw06_HoldStays
  rw [Few1]
  simp only [Option.bind]
  by_cases hc : a1.length ≤ 40
  · rw [gd_t (by simp [hc]), ref_Rights_eq _ (by omega)]
    simp only []
    by_cases hr : Rts a1
    · rw [if_neg (by simp [hc, hr]), hold_Find_eq _ _ _ (by omega)]
      simp only []
      by_cases hs : (Fnd a1 a2 a3).2 = true ∧ (Fnd a1 a2 a3).1.State ≠ 1
      · rw [if_neg (by simp [hs.1, hs.2]), hold_End_eq _ _ _ _ (by omega), hold_End_eq _ _ _ _ (by omega), hold_Expire_eq _ _ _ (by omega)]
        simp only []
        rw [hold_Find_eq _ _ _ (by rw [Exp_len]; omega)]
        simp only [letM_eq]
        cases hk : a1.findIdx? (isK a2 a3) with
        | none => simp [Fnd, hk] at hs
        | some i =>
          have hi := (List.findIdx?_eq_some_iff_getElem.1 hk).1
          have e1 : Fnd a1 a2 a3 = (a1.getD i default, true) := by unfold Fnd; rw [hk]
          rw [e1] at hs ⊢
          have hs2 : (a1.getD i default).State ≠ 1 := hs.2
          have e2 : ∀ st, st = 2 ∨ st = 3 → EndS a1 a2 a3 st = ([], 0, 12) := fun st h => by unfold EndS; rw [if_pos ⟨hr, h⟩, hk]; simp only; rw [if_neg hs2]
          have e3 : (Exp a1 a2 a4).1 = a1.map (ex a2 a4) := by unfold Exp; rw [if_pos hr]
          have e4 : (a1.map (ex a2 a4)).findIdx? (isK a2 a3) = some i := by
            rw [List.findIdx?_map]
            rw [← hk]; congr 1; funext h; exact ex_isK _ _ _ _ h
          have e5 : ex a2 a4 (a1.getD i default) = a1.getD i default := by
            rw [ex, if_neg]; simp only [due, hs2, decide_false, Bool.and_false, Bool.false_and]; exact Bool.false_ne_true
          have e6 : Fnd (Exp a1 a2 a4).1 a2 a3 = (a1.getD i default, true) := by
            unfold Fnd; rw [e3, e4]; simp only
            rw [show (a1.map (ex a2 a4)).getD i default = ex a2 a4 (a1.getD i default) by simp [List.getD, hi], e5]
          rw [e2 2 (.inl rfl), e2 3 (.inr rfl), e6]
          simp [awake_eq]
      · rw [if_pos, awake_eq]
        by_cases h1 : (Fnd a1 a2 a3).2 = true
        · simp [h1] at hs; simp [h1, hs]
        · simp [h1]
    · rw [if_pos (by simp [hr]), awake_eq]
  · rw [gd_f (by simp [hc])]
    simp [hc, awake_eq]
end Go.Av
