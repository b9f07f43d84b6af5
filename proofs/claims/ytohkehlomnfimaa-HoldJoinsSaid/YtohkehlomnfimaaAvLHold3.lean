/- A new hold; what is asked of holds. -/
import Derived.Test.YtohkehlomnfimaaAvLHold2
namespace Go.Av
set_option linter.unusedVariables false
set_option linter.unusedSimpArgs false

def putS : List THold → THold → List THold
  | [], x => [x]
  | h :: t, x => if HLt h x then h :: putS t x else x :: h :: t
theorem putS_length (x : THold) : ∀ l : List THold, (putS l x).length = l.length + 1
  | [] => rfl
  | h :: t => by unfold putS; split <;> simp [putS_length x t]
theorem putS_perm (x : THold) : ∀ l : List THold, (putS l x).Perm (x :: l)
  | [] => .refl _
  | h :: t => by
    unfold putS
    split
    · exact ((putS_perm x t).cons h).trans (.swap x h t)
    · exact .refl _
theorem putS_mem {x y : THold} {l : List THold} : y ∈ putS l x ↔ y = x ∨ y ∈ l := by rw [(putS_perm x l).mem_iff, List.mem_cons]
/-- Another key. -/
def Off (h x : THold) : Prop := ¬ (h.Replica = x.Replica ∧ h.Number = x.Number)
theorem HLt.off {a b : THold} (h : HLt a b) : Off a b ∧ Off b a := by unfold HLt Off at *; omega
theorem lt_or {a b : THold} (h : Off a b) (k : ¬ HLt a b) : HLt b a := by unfold HLt Off at *; omega
theorem putS_sorted (x : THold) : ∀ l : List THold, l.Pairwise HLt → (∀ h ∈ l, Off h x) → (putS l x).Pairwise HLt
  | [], _, _ => by simp [putS]
  | h :: t, hl, ho => by
    unfold putS
    rw [List.pairwise_cons] at hl
    split
    · rename_i hx
      rw [List.pairwise_cons]
      refine ⟨fun y hy => ?_, putS_sorted x t hl.2 fun y hy => ho y (by simp [hy])⟩
      rcases putS_mem.1 hy with rfl | hy
      · exact hx
      · exact hl.1 y hy
    · rename_i hx
      have h1 := lt_or (ho h (by simp)) hx
      rw [List.pairwise_cons, List.pairwise_cons]
      refine ⟨fun y hy => ?_, hl⟩
      rcases List.mem_cons.1 hy with rfl | hy
      · exact h1
      · exact h1.trans (hl.1 y hy)
theorem sorted_tri {l : List THold} (h : l.Pairwise HLt) {a b : THold} (ha : a ∈ l) (hb : b ∈ l) : a = b ∨ HLt a b ∨ HLt b a := by
  obtain ⟨i, hi, rfl⟩ := List.getElem_of_mem ha
  obtain ⟨j, hj, rfl⟩ := List.getElem_of_mem hb
  rw [List.pairwise_iff_getElem] at h
  rcases Nat.lt_trichotomy i j with h1 | rfl | h1
  · exact .inr (.inl (h _ _ hi hj h1))
  · exact .inl rfl
  · exact .inr (.inr (h _ _ hj hi h1))
/-- What is sorted is told by its order. -/
theorem sort_uniq {l m : List THold} (hp : l.Perm m) (hm : m.Pairwise HLt) : sortF holdCmp l = m := by
  refine List.Perm.eq_of_pairwise (le := fun a b => ¬ HLt b a) ?_ ?_ ?_ ((sortF_perm holdCmp_swo l).trans hp)
  · intro a b ha hb h1 h2
    rcases sorted_tri hm (hp.mem_iff.1 ((sortF_perm holdCmp_swo l).mem_iff.1 ha)) hb with h | h | h
    · exact h
    · exact (h2 h).elim
    · exact (h1 h).elim
  · exact (sortF_sorted holdCmp_swo l).imp fun {a b} h => by rw [holdCmp_lt] at h; simpa [HLt] using h
  · exact hm.imp fun {a b} h k => by unfold HLt at *; omega

theorem putS_split (x : THold) : ∀ l : List THold, l.take (l.findIdx fun h => !decide (HLt h x)) ++ ([x] ++ l.drop (l.findIdx fun h => !decide (HLt h x))) = putS l x
  | [] => rfl
  | h :: t => by
    unfold putS
    rw [List.findIdx_cons]
    by_cases hx : HLt h x
    · simp only [hx, decide_true, Bool.not_true, cond_false, if_true, List.take_succ_cons, List.drop_succ_cons]
      rw [List.cons_append, putS_split x t]
    · simp [hx]
theorem find_loop (l : List THold) (x : THold) (hl : l.length ≤ 1000000000000) {body : Int → Option (Int ⊕ Int)} (hb : ∀ i, i < l.length → body (i : Int) = some (if HLt (l.getD i default) x then .inl (((i + 1 : Nat)) : Int) else .inr (i : Int)))
    (hf : body (l.length : Int) = some (.inr (l.length : Int))) : loopM body fuel 0 = some ((l.findIdx fun h => !decide (HLt h x) : Nat) : Int) := by
  refine loopM_eq (fun i s => s = (i : Int) ∧ i ≤ (l.findIdx fun h => !decide (HLt h x))) l.length (by omega) _ ?_ ?_ ⟨rfl, Nat.zero_le _⟩
  · rintro i s hi ⟨rfl, hI⟩
    rw [hb i hi]
    by_cases h : HLt (l.getD i default) x
    · refine .inl ⟨_, by rw [if_pos h], rfl, ?_⟩
      rcases Nat.lt_or_eq_of_le hI with h1 | h1
      · exact h1
      · have := @List.findIdx_getElem _ (fun h => !decide (HLt h x)) l (by omega)
        simp only [← h1] at this
        rw [List.getD, List.getElem?_eq_getElem hi] at h
        simp [h] at this
        exact (this h).elim
    · refine .inr ?_
      rw [if_neg h]
      have : ¬ i < (l.findIdx fun h => !decide (HLt h x)) := fun h1 => by
        have := List.not_of_lt_findIdx h1
        rw [List.getD, List.getElem?_eq_getElem hi] at h
        simp at this
        exact h this
      rw [show (l.findIdx fun h => !decide (HLt h x)) = i by omega]
  · rintro s ⟨rfl, hI⟩
    rw [hf]
    have := @List.findIdx_le_length _ (fun h => !decide (HLt h x)) l
    rw [show (l.findIdx fun h => !decide (HLt h x)) = l.length by omega]
theorem Put_eq (l : List THold) (x : THold) (hl : l.length ≤ 1000000000000) : usufructref06_Put l x = some (putS l x) := by
  have hk := @List.findIdx_le_length _ (fun h => !decide (HLt h x)) l
  unfold usufructref06_Put
  rw [find_loop l x hl (fun i hi => ?_) (by simp [usufructref06_Put_L1])]
  · rw [← putS_split x l]
    generalize (l.findIdx fun h => !decide (HLt h x)) = k at hk
    have e1 : ssl l 0 (k : Int) = some (l.take k) := by simp [ssl]; omega
    have e2 : ssl l (k : Int) (l.length : Int) = some (l.drop k) := by simp [ssl]; omega
    simp only [e1, e2, Option.bind]
    rw [app_of (by simp; omega)]
    simp only [List.nil_append]
    rw [app_of (by simp; omega)]
    simp only []
    rw [app_of (by simp; omega)]
    simp only [List.append_assoc]
  · simp only [usufructref06_Put_L1]
    rw [gd_t (by simp; omega), six_of hi]
    simp only [Option.bind]
    rw [gd_t (by simp; omega), ref_Ahead_eq]
    simp only [Option.bind, wr_succ (show i < 1000000000000000 by omega)]
    by_cases h : HLt (l.getD i default) x
    · rw [if_pos (by simp only [h, decide_true, Bool.and_true, decide_eq_true_eq]; omega), if_pos h]
    · rw [if_neg (by simp only [h, decide_false, Bool.and_false]; exact Bool.false_ne_true), if_neg h]
theorem Put_own_eq (l : List THold) (x : THold) (hl : l.length ≤ 1000000000000) : usufructref06_Put_own l x = some (putS l x) := Put_eq l x hl

def rstep (r : Int) (s : Int) (h : THold) : Int := if h.Replica = r then max s (wr .i64 (h.Number + 1)) else s
def mstep (r : Int) (s : Int) (h : THold) : Int := if (decide (h.Replica = r) && decide (s < h.Number)) = true then h.Number else s
def NextN (l : List THold) (r : Int) : Int := l.foldl (rstep r) 1
theorem next_max (r : Int) : ∀ (l : List THold) (s : Int), (∀ h ∈ l, HOk h) → 0 ≤ s → s ≤ 1099511627776 → l.foldl (rstep r) (s + 1) = l.foldl (mstep r) s + 1 ∧ 0 ≤ l.foldl (mstep r) s ∧ l.foldl (mstep r) s ≤ 1099511627776 ∧ s ≤ l.foldl (mstep r) s ∧ ∀ h ∈ l, h.Replica = r → h.Number ≤ l.foldl (mstep r) s
  | [], s, _, h0, h1 => ⟨rfl, h0, h1, Int.le_refl _, fun h hm => by simp at hm⟩
  | h :: t, s, hl, h0, h1 => by
    have hh := hl h (by simp)
    have e : rstep r (s + 1) h = mstep r s h + 1 ∧ 0 ≤ mstep r s h ∧ mstep r s h ≤ 1099511627776 ∧ s ≤ mstep r s h ∧ (h.Replica = r → h.Number ≤ mstep r s h) := by
      unfold rstep mstep
      unfold HOk at hh
      rw [wr_id (by omega)]
      by_cases h2 : h.Replica = r
      · by_cases h3 : s < h.Number
        · simp [h2, h3]; omega
        · simp [h2, h3]; omega
      · simp [h2]; omega
    simp only [List.foldl_cons]
    rw [e.1]
    obtain ⟨a, b, c, d, f⟩ := next_max r t (mstep r s h) (fun x hx => hl x (by simp [hx])) e.2.1 e.2.2.1
    refine ⟨a, b, c, by omega, fun x hx hr => ?_⟩
    rcases List.mem_cons.1 hx with rfl | hx
    · have := e.2.2.2.2 hr; omega
    · exact f x hx hr

def newH (l : List THold) (r a d : Int) : THold := ⟨r, NextN l r, a, d, 1⟩
def ResS (l : List THold) (r a d : Int) : List THold × Int × Int :=
  if Rts l ∧ HOk (newH l r a d) then (if l.length = 16 then ([], 0, 7) else (putS l (newH l r a d), NextN l r, 0)) else ([], 0, 1)
theorem newH_off {l : List THold} {r a d : Int} (hl : ∀ h ∈ l, HOk h) : ∀ h ∈ l, Off h (newH l r a d) := by
  intro h hm ⟨h1, h2⟩
  have := next_max r l 0 hl (by omega) (by omega)
  have h3 := this.2.2.2.2 h hm h1
  have h4 := this.1
  simp only [newH, NextN] at h2
  have h5 : l.foldl (rstep r) (0 + 1) = l.foldl (rstep r) 1 := rfl
  omega
theorem ResS_ok {l : List THold} {r a d : Int} (h : Rts l) (h2 : HOk (newH l r a d)) (h3 : l.length ≠ 16) : ResS l r a d = (putS l (newH l r a d), NextN l r, 0) := by unfold ResS; rw [if_pos ⟨h, h2⟩, if_neg h3]
theorem ResS_full {l : List THold} {r a d : Int} (h : Rts l) (h2 : HOk (newH l r a d)) (h3 : l.length = 16) : ResS l r a d = ([], 0, 7) := by unfold ResS; rw [if_pos ⟨h, h2⟩, if_pos h3]
theorem ResS_no {l : List THold} {r a d : Int} (h : ¬ (Rts l ∧ HOk (newH l r a d))) : ResS l r a d = ([], 0, 1) := by unfold ResS; rw [if_neg h]
theorem hold_Reserve_eq (l : List THold) (r a d : Int) (hl : l.length ≤ 1000000000000) : hold_Reserve l r a d = some (ResS l r a d) := by
  unfold hold_Reserve
  rw [(loop_fold l.length (by omega) (fun s i => rstep r s (l.getD i default)) id (fun _ _ => True) trivial (fun i s hi _ => ⟨?_, trivial⟩) (fun s _ => by simp [hold_Reserve_L1])).1]
  · simp only [Option.bind, id]
    rw [foldl_range_list l default (rstep r) 1]
    simp only [letM_eq, hold_Rights_eq l (by omega), hold_Right_eq, gd]
    rw [show (⟨r, l.foldl (rstep r) 1, a, d, 1⟩ : THold) = newH l r a d from rfl]
    by_cases h : Rts l
    · by_cases h2 : HOk (newH l r a d)
      · simp only [h, h2, decide_true, Bool.not_true, if_true, Bool.or_self]
        rw [if_neg Bool.false_ne_true]
        by_cases h3 : l.length = 16
        · rw [if_pos (by simp [h3]), ResS_full h h2 h3]
        · rw [if_neg (by simp; omega), ResS_ok h h2 h3, app_of (by simp; omega)]
          simp only [List.nil_append]
          rw [app_of (by simp; omega)]
          simp only [sortM]
          rw [if_pos (by simp; omega), sort_uniq (m := putS l (newH l r a d)) (List.perm_append_comm.trans (putS_perm _ l).symm) (putS_sorted _ l h.2.1 (newH_off h.1))]
          rfl
      · rw [ResS_no (fun x => h2 x.2)]; simp [h, h2]
    · rw [ResS_no (fun x => h x.1)]; simp [h]
  · simp only [hold_Reserve_L1, six_of hi, letM_eq, Option.bind, rstep]
    rw [if_pos (by simp; omega)]
    simp only [wr_succ (show i < 1000000000000000 by omega)]
    by_cases h : (l.getD i default).Replica = r
    · rw [if_pos (by simpa only [decide_eq_true_eq] using h), if_pos h]
    · rw [if_neg (by simpa only [decide_eq_true_eq] using h), if_neg h]
theorem ref_Reserve_eq (l : List THold) (r a d : Int) (hl : l.length ≤ 1000000000000) : usufructref06_Reserve l r a d = some (ResS l r a d) := by
  unfold usufructref06_Reserve
  rw [ref_Rights_eq l (by omega)]
  simp only [Option.bind]
  by_cases h : Rts l
  · rw [if_neg (by simp [h])]
    rw [(loop_fold l.length (by omega) (fun s i => mstep r s (l.getD i default)) id (fun _ _ => True) trivial (fun i s hi _ => ⟨?_, trivial⟩) (fun s _ => by simp [usufructref06_Reserve_L1])).1]
    · simp only [id]
      rw [foldl_range_list l default (mstep r) 0]
      obtain ⟨e1, e2, e3, e4, e5⟩ := next_max r l 0 h.1 (by omega) (by omega)
      have e : wr .i64 (l.foldl (mstep r) 0 + 1) = NextN l r := by rw [wr_id (by omega), ← e1]; rfl
      simp only [letM_eq, e, ref_Right_eq]
      rw [show (⟨r, NextN l r, a, d, 1⟩ : THold) = newH l r a d from rfl]
      by_cases h2 : HOk (newH l r a d)
      · rw [if_neg (by simp [h2])]
        have h16 := h.2.2
        by_cases h3 : l.length = 16
        · rw [if_pos (by simp [h3]), ResS_full h h2 h3]
        · rw [if_neg (by simp; omega), ResS_ok h h2 h3, Put_eq _ _ hl]
      · rw [ResS_no (fun x => h2 x.2), if_pos (by simp [h2])]
    · simp only [usufructref06_Reserve_L1, six_of hi, letM_eq, Option.bind, mstep]
      rw [if_pos (by simp; omega)]
      simp only [wr_succ (show i < 1000000000000000 by omega)]
      by_cases h1 : (l.getD i default).Replica = r
      · rw [gd_t (by simp only [h1, decide_true])]
        simp only [h1, decide_true, Bool.true_and]
        split <;> rfl
      · rw [gd_f (by simp only [h1, decide_false]; exact Bool.false_ne_true)]
        simp only [h1, decide_false, Bool.false_and]
        rfl
  · rw [if_pos (by simp [h]), ResS_no (fun x => h x.1)]

theorem awake_eq : usufructlaw06_awake = some true := by
  unfold usufructlaw06_awake
  rw [hold_Reserve_eq _ _ _ _ (by simp)]
  have e1 : ResS [] 2 5 9 = ([⟨2, 1, 5, 9, 1⟩], 1, 0) := by decide
  rw [e1]
  simp only [Option.bind, letM_eq]
  rw [hold_Expire_eq _ _ _ (by simp), hold_Expire_eq _ _ _ (by simp)]
  have e2 : Exp [⟨2, 1, 5, 9, 1⟩] 2 9 = ([⟨2, 1, 5, 9, 1⟩], 0) := by decide
  have e3 : Exp [⟨2, 1, 5, 9, 1⟩] 2 10 = ([⟨2, 1, 5, 9, 3⟩], 1) := by decide
  rw [e2, e3]
  simp only [hold_Sum_eq [(⟨2, 1, 5, 9, 1⟩ : THold)] 2 (by simp)]
  rfl
end Go.Av
