/- What becomes of a list of holds. -/
import Derived.Test.YtohkehlomnfimaaAvLHold
namespace Go.Av
set_option linter.unusedVariables false
set_option linter.unusedSimpArgs false

theorem loop_first {α ξ ρ : Type} [Inhabited α] {body : Int → Option (Int ⊕ (ξ ⊕ ρ))} (l : List α) (hl : l.length ≤ 1000000000000000) (p : α → Bool) (q : Nat → ρ) (x : ξ)
    (hb : ∀ i, i < l.length → body (i : Int) = some (if p (l.getD i default) = true then .inr (.inr (q i)) else .inl (((i + 1 : Nat)) : Int))) (hf : body (l.length : Int) = some (.inr (.inl x))) :
    loopM body fuel 0 = some (match l.findIdx? p with | some i => .inr (q i) | none => .inl x) := by
  refine loopM_eq (fun i s => s = (i : Int) ∧ ∀ j, j < i → p (l.getD j default) = false) l.length hl _ ?_ ?_ ⟨rfl, fun j h => by omega⟩
  · rintro i s hi ⟨rfl, hI⟩
    rw [hb i hi]
    by_cases h : p (l.getD i default) = true
    · refine .inr ?_
      rw [if_pos h]
      have : l.findIdx? p = some i := by
        rw [List.findIdx?_eq_some_iff_getElem]
        refine ⟨hi, by simpa [List.getD, hi] using h, fun j hj => ?_⟩
        have := hI j hj
        simp [List.getD, show j < l.length by omega] at this
        simp [this]
      rw [this]
    · refine .inl ⟨_, by rw [if_neg h], rfl, fun j hj => ?_⟩
      rcases Nat.lt_succ_iff_lt_or_eq.1 hj with h2 | rfl
      · exact hI j h2
      · simpa using h
  · rintro s ⟨rfl, hI⟩
    rw [hf]
    have : l.findIdx? p = none := by
      rw [List.findIdx?_eq_none_iff]
      intro y hy
      obtain ⟨i, hi, rfl⟩ := List.getElem_of_mem hy
      simpa [List.getD, hi] using hI i hi
    rw [this]

theorem mid_set {α : Type} [Inhabited α] (f : α → α) (l : List α) (i : Nat) (hi : i < l.length) : ((l.take i).map f ++ l.drop i).set i (f (l.getD i default)) = (l.take (i + 1)).map f ++ l.drop (i + 1) := by
  have hd : l.drop i = l[i] :: l.drop (i + 1) := List.drop_eq_getElem_cons hi
  have hn : ((l.take i).map f).length = i := by simp; omega
  rw [hd, List.set_append]
  simp only [hn, Nat.lt_irrefl, if_false, Nat.sub_self, List.set_cons_zero]
  rw [List.take_succ_eq_append_getElem hi, List.map_append, List.append_assoc, show l.getD i default = l[i] by simp [List.getD, hi]]
  rfl
theorem mid_keep {α : Type} [Inhabited α] (f : α → α) (l : List α) (i : Nat) (hi : i < l.length) (h : f (l.getD i default) = l.getD i default) : (l.take i).map f ++ l.drop i = (l.take (i + 1)).map f ++ l.drop (i + 1) := by
  have hd : l.drop i = l[i] :: l.drop (i + 1) := List.drop_eq_getElem_cons hi
  have : f l[i] = l[i] := by simpa [List.getD, hi] using h
  rw [hd, List.take_succ_eq_append_getElem hi, List.map_append, List.append_assoc]
  simp only [List.map_cons, List.map_nil, this, List.singleton_append]
theorem mid_at {α : Type} [Inhabited α] (f : α → α) (l : List α) (i : Nat) (hi : i < l.length) : ((l.take i).map f ++ l.drop i).getD i default = l.getD i default := by
  have hn : ((l.take i).map f).length = i := by simp; omega
  rw [List.getD, List.getElem?_append_right (by omega), hn, Nat.sub_self, List.getElem?_drop]
  rfl
theorem mid_len {α : Type} (f : α → α) (l : List α) (i : Nat) (hi : i ≤ l.length) : ((l.take i).map f ++ l.drop i).length = l.length := by simp; omega
theorem cnt_succ {α : Type} [Inhabited α] (p : α → Bool) (l : List α) (i : Nat) (hi : i < l.length) : (l.take (i + 1)).countP p = (l.take i).countP p + if p (l.getD i default) = true then 1 else 0 := by
  rw [List.take_succ_eq_append_getElem hi, List.countP_append]
  simp [List.countP_cons, List.getD, hi]

def due (r t : Int) (h : THold) : Bool := decide (h.Replica = r) && decide (h.State = 1) && decide (h.Due < t)
def ex (r t : Int) (h : THold) : THold := if due r t h = true then { h with State := 3 } else h
def Exp (l : List THold) (r t : Int) : List THold × Int := if Rts l then (l.map (ex r t), (l.countP (due r t) : Int)) else (l, 0)

theorem hold_Expire_eq (l : List THold) (r t : Int) (hl : l.length ≤ 1000000000000) : hold_Expire l r t = some (Exp l r t) := by
  unfold hold_Expire Exp
  rw [app_of (by simp; omega), hold_Rights_eq l (by omega)]
  simp only [Option.bind, List.nil_append]
  by_cases h : Rts l
  · rw [if_neg (by simp [h]), if_pos h]
    rw [loopM_eq (q := (((l.countP (due r t) : Nat) : Int), l.map (ex r t))) (fun i s => s = ((i : Int), (l.take i).map (ex r t) ++ l.drop i, (((l.take i).countP (due r t) : Nat) : Int))) l.length (by omega) ?_ ?_ (by simp)]
    · rintro i s hi rfl
      refine .inl ⟨_, ?_, rfl⟩
      have hc : (l.take i).countP (due r t) ≤ l.length := Nat.le_trans List.countP_le_length (by simp; omega)
      simp only [hold_Expire_L1, six_of (show i < ((l.take i).map (ex r t) ++ l.drop i).length by rw [mid_len _ _ _ (by omega)]; exact hi), letM_eq, Option.bind, mid_at _ _ _ hi]
      rw [if_pos (by simp; omega)]
      simp only [wr_succ (show i < 1000000000000000 by omega), cnt_succ _ _ _ hi]
      by_cases hd : due r t (l.getD i default) = true
      · have he : { l.getD i default with State := 3 } = ex r t (l.getD i default) := by rw [ex, if_pos hd]
        rw [if_pos (by simpa only [due] using hd), if_pos hd, he, mid_set _ _ _ hi, wr_succ (by omega)]
      · have he : ex r t (l.getD i default) = l.getD i default := by rw [ex, if_neg hd]
        rw [if_neg (by simpa only [due] using hd), if_neg hd, mid_keep _ _ _ hi he]
        rfl
    · rintro s rfl
      simp [hold_Expire_L1]
  · rw [if_pos (by simp [h]), if_neg h]

theorem ref_Expire_eq (l : List THold) (r t : Int) (hl : l.length ≤ 1000000000000) : usufructref06_Expire l r t = some (Exp l r t) := by
  unfold usufructref06_Expire Exp
  rw [app_of (by simp; omega)]
  simp only [Option.bind, List.nil_append]
  by_cases h : Rts l
  · rw [if_pos h]
    rw [loopM_eq (q := (((l.countP (due r t) : Nat) : Int), l.map (ex r t))) (fun i s => s = ((i : Int), (((l.take i).countP (due r t) : Nat) : Int), (l.take i).map (ex r t) ++ l.drop i)) l.length (by omega) ?_ ?_ (by simp)]
    · rintro i s hi rfl
      refine .inl ⟨_, ?_, rfl⟩
      have hc : (l.take i).countP (due r t) ≤ l.length := Nat.le_trans List.countP_le_length (by simp; omega)
      simp only [usufructref06_Expire_L1]
      rw [gd_t (by simp; omega), ref_Rights_eq l (by omega)]
      simp only [Option.bind]
      rw [if_pos (by simp [h]; omega), six_of hi]
      simp only [Option.bind, letM_eq, six_of (show i < ((l.take i).map (ex r t) ++ l.drop i).length by rw [mid_len _ _ _ (by omega)]; exact hi), mid_at _ _ _ hi, wr_succ (show i < 1000000000000000 by omega), cnt_succ _ _ _ hi]
      by_cases h1 : (l.getD i default).Replica = r
      · rw [gd_t (by simp only [h1, decide_true])]
        simp only [Option.bind]
        by_cases h2 : (l.getD i default).State = 1
        · rw [gd_t (by simp only [h1, h2, decide_true, Bool.and_self])]
          simp only [Option.bind]
          by_cases hd : due r t (l.getD i default) = true
          · have he : { l.getD i default with State := 3 } = ex r t (l.getD i default) := by rw [ex, if_pos hd]
            rw [if_pos (by simpa only [due] using hd), if_pos hd, he, mid_set _ _ _ hi, wr_succ (by omega)]
          · have he : ex r t (l.getD i default) = l.getD i default := by rw [ex, if_neg hd]
            rw [if_neg (by simpa only [due] using hd), if_neg hd, mid_keep _ _ _ hi he]
            rfl
        · have hd : ¬ due r t (l.getD i default) = true := by simp only [due, h2, decide_false, Bool.and_false, Bool.false_and]; exact Bool.false_ne_true
          have he : ex r t (l.getD i default) = l.getD i default := by rw [ex, if_neg hd]
          rw [gd_f (by simp only [h2, decide_false, Bool.and_false]; exact Bool.false_ne_true)]
          simp only [Option.bind]
          rw [if_neg (by simp only [h2, decide_false, Bool.and_false, Bool.false_and]; exact Bool.false_ne_true), if_neg hd, mid_keep _ _ _ hi he]
          rfl
      · have hd : ¬ due r t (l.getD i default) = true := by simp only [due, h1, decide_false, Bool.and_false, Bool.false_and]; exact Bool.false_ne_true
        have he : ex r t (l.getD i default) = l.getD i default := by rw [ex, if_neg hd]
        rw [gd_f (by simp only [h1, decide_false]; exact Bool.false_ne_true)]
        simp only [Option.bind]
        rw [gd_f (by simp only [h1, decide_false, Bool.false_and]; exact Bool.false_ne_true)]
        simp only [Option.bind]
        rw [if_neg (by simp only [h1, decide_false, Bool.false_and]; exact Bool.false_ne_true), if_neg hd, mid_keep _ _ _ hi he]
        rfl
    · rintro s rfl
      simp [usufructref06_Expire_L1, h]
  · rw [if_neg h]
    rw [loopM_eq (q := ((0 : Int), l)) (fun i s => s = ((0 : Int), (0 : Int), l)) 0 (by omega) (fun i s hi => by omega) ?_ rfl]
    rintro s rfl
    simp only [usufructref06_Expire_L1]
    by_cases h0 : decide ((0 : Int) < (l.length : Int)) = true
    · rw [gd_t h0, ref_Rights_eq l (by omega)]; simp [h]
    · rw [gd_f h0]; simp [h0]

def isK (r n : Int) (h : THold) : Bool := decide (h.Replica = r) && decide (h.Number = n)
theorem place_eq (l : List THold) (r n : Int) (hl : l.length ≤ 1000000000000) : hold_place l r n = some (match l.findIdx? (isK r n) with | some i => (i : Int) | none => -1) := by
  unfold hold_place slices_IndexFunc_Hold_place_1
  rw [loop_first l (by omega) (isK r n) (fun i => (i : Int)) () (fun i hi => ?_) (by simp [slices_IndexFunc_Hold_place_1_L1])]
  · cases l.findIdx? (isK r n) <;> rfl
  · simp only [slices_IndexFunc_Hold_place_1_L1, hold_place_1, six_of hi, letM_eq, Option.bind]
    rw [if_pos (by simp; omega)]
    simp only [wr_succ (show i < 1000000000000000 by omega)]
    by_cases h : isK r n (l.getD i default) = true
    · rw [if_pos (by simpa only [isK] using h), if_pos h]
    · rw [if_neg (by simpa only [isK] using h), if_neg h]
def Fnd (l : List THold) (r n : Int) : THold × Bool := match l.findIdx? (isK r n) with | some i => (l.getD i default, true) | none => (default, false)
theorem hold_Find_eq (l : List THold) (r n : Int) (hl : l.length ≤ 1000000000000) : hold_Find l r n = some (Fnd l r n) := by
  unfold hold_Find Fnd
  rw [place_eq l r n hl]
  cases h : l.findIdx? (isK r n) with
  | none => simp; rfl
  | some i =>
    have hi := (List.findIdx?_eq_some_iff_getElem.1 h).1
    simp only [Option.bind]
    rw [if_neg (by simp), six_of hi]
    rfl

def EndS (l : List THold) (r n st : Int) : List THold × Int × Int :=
  if Rts l ∧ (st = 2 ∨ st = 3) then (match l.findIdx? (isK r n) with
    | none => ([], 0, 10)
    | some i => if (l.getD i default).State = 1 then (l.set i { l.getD i default with State := st }, (l.getD i default).Amount, 0) else ([], 0, 12))
  else ([], 0, 1)
theorem set_at {α : Type} [Inhabited α] (l : List α) (i : Nat) (hi : i < l.length) (x : α) : (l.set i x).getD i default = x := by simp [List.getD, hi]
theorem hold_End_eq (l : List THold) (r n st : Int) (hl : l.length ≤ 1000000000000) : hold_End l r n st = some (EndS l r n st) := by
  unfold hold_End EndS
  rw [place_eq l r n hl, hold_Rights_eq l (by omega)]
  simp only [Option.bind, letM_eq]
  by_cases h : Rts l ∧ (st = 2 ∨ st = 3)
  · rw [if_neg (by simp [h.1]; omega), if_pos h]
    cases hk : l.findIdx? (isK r n) with
    | none => simp
    | some i =>
      have hi := (List.findIdx?_eq_some_iff_getElem.1 hk).1
      simp only
      rw [if_neg (by simp), six_of hi, app_of (by simp; omega)]
      simp only [Option.bind, List.nil_append, six_of hi]
      by_cases hs : (l.getD i default).State = 1
      · rw [if_neg (by simp only [hs, decide_true]; decide), if_pos hs, six_of (by simp; exact hi)]
        simp only [set_at _ _ hi]
      · rw [if_pos (by simp only [hs, decide_false]; rfl), if_neg hs]
  · rw [if_neg h, if_pos]
    by_cases h1 : Rts l
    · simp [h1] at h ⊢; omega
    · simp [h1]
theorem ref_End_eq (l : List THold) (r n st : Int) (hl : l.length ≤ 1000000000000) : usufructref06_End l r n st = some (EndS l r n st) := by
  unfold usufructref06_End EndS
  rw [ref_Rights_eq l (by omega)]
  simp only [Option.bind]
  by_cases h : Rts l ∧ (st = 2 ∨ st = 3)
  · rw [if_neg (by simp [h.1]; omega), if_pos h]
    rw [loop_first l (by omega) (isK r n) (fun i => if (l.getD i default).State = 1 then (l.set i { l.getD i default with State := st }, (l.getD i default).Amount, 0) else ([], 0, 12)) () (fun i hi => ?_) (by simp [usufructref06_End_L1])]
    · cases l.findIdx? (isK r n) <;> rfl
    · simp only [usufructref06_End_L1, six_of hi, letM_eq, Option.bind]
      rw [if_pos (by simp; omega)]
      simp only [wr_succ (show i < 1000000000000000 by omega)]
      by_cases h1 : (l.getD i default).Replica = r
      · rw [gd_t (by simp only [h1, decide_true])]
        simp only [Option.bind]
        by_cases hk : isK r n (l.getD i default) = true
        · rw [if_pos (by simpa only [isK] using hk), if_pos hk]
          by_cases hs : (l.getD i default).State = 1
          · rw [if_neg (by simp only [hs, decide_true]; decide), if_pos hs, app_of (by simp; omega)]
            simp only [List.nil_append, six_of hi]
          · rw [if_pos (by simp only [hs, decide_false]; rfl), if_neg hs]
        · rw [if_neg (by simpa only [isK] using hk), if_neg hk]
      · have hk : ¬ isK r n (l.getD i default) = true := by simp only [isK, h1, decide_false, Bool.false_and]; exact Bool.false_ne_true
        rw [gd_f (by simp only [h1, decide_false]; exact Bool.false_ne_true)]
        simp only [Option.bind]
        rw [if_neg (by simp only [h1, decide_false, Bool.false_and]; exact Bool.false_ne_true), if_neg hk]
  · rw [if_neg h, if_pos]
    by_cases h1 : Rts l
    · simp [h1] at h ⊢; omega
    · simp [h1]

def sumStep (r : Int) (s : Int) (h : THold) : Int := if (decide (h.Replica = r) && decide (h.State = 1)) = true then min (wr .i64 (s + h.Amount)) 1099511627776 else s
def SumS (l : List THold) (r : Int) : Int := l.foldl (sumStep r) 0
theorem hold_Sum_eq (l : List THold) (r : Int) (hl : l.length ≤ 1000000000000) : hold_Sum l r = some (SumS l r) := by
  unfold hold_Sum
  rw [(loop_fold l.length (by omega) (fun s i => sumStep r s (l.getD i default)) id (fun _ _ => True) trivial (fun i s hi _ => ⟨?_, trivial⟩) (fun s _ => by simp [hold_Sum_L1])).1]
  · simp only [Option.bind, id, SumS]; rw [foldl_range_list]
  · simp only [hold_Sum_L1, six_of hi, letM_eq, Option.bind, sumStep]
    rw [if_pos (by simp; omega)]
    simp only [wr_succ (show i < 1000000000000000 by omega)]
    split <;> rfl
theorem ref_Sum_eq (l : List THold) (r : Int) (hl : l.length ≤ 1000000000000) : usufructref06_Sum l r = some (SumS l r) := by
  unfold usufructref06_Sum
  rw [(loop_fold l.length (by omega) (fun s i => sumStep r s (l.getD i default)) id (fun _ _ => True) trivial (fun i s hi _ => ⟨?_, trivial⟩) (fun s _ => by simp [usufructref06_Sum_L1])).1]
  · simp only [Option.bind, id, SumS]; rw [foldl_range_list]
  · simp only [usufructref06_Sum_L1, six_of hi, letM_eq, Option.bind, sumStep]
    rw [if_pos (by simp; omega)]
    simp only [wr_succ (show i < 1000000000000000 by omega)]
    by_cases h1 : (l.getD i default).Replica = r
    · rw [gd_t (by simp only [h1, decide_true])]
      simp only [h1, decide_true, Bool.true_and]
      split <;> rfl
    · rw [gd_f (by simp only [h1, decide_false]; exact Bool.false_ne_true)]
      simp only [h1, decide_false, Bool.false_and]
      rfl
end Go.Av
