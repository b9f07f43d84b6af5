/- A new hold stands, and is ended. -/
import Derived.Test.YtohkehlomnfimaaAvLHold4
namespace Go.Av
set_option linter.unusedVariables false
set_option linter.unusedSimpArgs false

def val (r : Int) (h : THold) : Int := if h.Replica = r ∧ h.State = 1 then h.Amount else 0
def tot (r : Int) (l : List THold) : Int := (l.map (val r)).sum
theorem tot_put (r : Int) (x : THold) : ∀ l : List THold, tot r (putS l x) = val r x + tot r l
  | [] => by simp [tot, putS]
  | h :: t => by
    have ih := tot_put r x t
    unfold putS
    split
    · simp only [tot, List.map_cons, List.sum_cons] at *; omega
    · simp only [tot, List.map_cons, List.sum_cons] at *
theorem tot_range {r : Int} : ∀ {l : List THold}, (∀ h ∈ l, 0 ≤ h.Amount ∧ h.Amount ≤ 1073741824) → 0 ≤ tot r l ∧ tot r l ≤ 1073741824 * (l.length : Int)
  | [], _ => by simp [tot]
  | h :: t, hl => by
    have ih := tot_range (r := r) (l := t) fun x hx => hl x (by simp [hx])
    have hh := hl h (by simp)
    have : 0 ≤ val r h ∧ val r h ≤ 1073741824 := by unfold val; split <;> omega
    simp only [tot, List.map_cons, List.sum_cons, List.length_cons] at *
    omega
theorem sum_tot' {r : Int} : ∀ (l : List THold) (s : Int), (∀ h ∈ l, 0 ≤ h.Amount ∧ h.Amount ≤ 1073741824) → 0 ≤ s → s + 1073741824 * (l.length : Int) ≤ 1099511627776 → l.foldl (sumStep r) s = s + tot r l
  | [], s, _, _, _ => by simp [tot]
  | h :: t, s, hl, h0, h1 => by
    have hh := hl h (by simp)
    simp only [List.length_cons] at h1
    have e : sumStep r s h = s + val r h := by
      unfold sumStep val
      rw [wr_id (by omega)]
      by_cases hc : h.Replica = r ∧ h.State = 1
      · rw [if_pos (by simp [hc]), if_pos hc]; omega
      · rw [if_neg (by simpa using hc), if_neg hc]; omega
    have : 0 ≤ val r h ∧ val r h ≤ 1073741824 := by unfold val; split <;> omega
    rw [List.foldl_cons, e, sum_tot' t (s + val r h) (fun x hx => hl x (by simp [hx])) (by omega) (by omega)]
    simp only [tot, List.map_cons, List.sum_cons]
    omega
theorem sum_tot {r : Int} {l : List THold} (hl : ∀ h ∈ l, 0 ≤ h.Amount ∧ h.Amount ≤ 1073741824) (hn : l.length ≤ 40) : SumS l r = tot r l := by
  unfold SumS
  rw [sum_tot' l 0 hl (by omega) (by omega)]
  omega

theorem isK_off {h x : THold} (ho : Off h x) : isK x.Replica x.Number h = false := by
  unfold Off at ho
  cases hk : isK x.Replica x.Number h with
  | false => rfl
  | true => simp only [isK, Bool.and_eq_true, decide_eq_true_eq] at hk; exact (ho hk).elim
theorem isK_self (x : THold) : isK x.Replica x.Number x = true := by simp [isK]
theorem find_off {l : List THold} {x : THold} (ho : ∀ h ∈ l, Off h x) : l.findIdx? (isK x.Replica x.Number) = none := by
  rw [List.findIdx?_eq_none_iff]
  exact fun h hm => isK_off (ho h hm)
theorem find_put (x : THold) : ∀ (l : List THold), (∀ h ∈ l, Off h x) → ∃ i, (putS l x).findIdx? (isK x.Replica x.Number) = some i ∧ (putS l x).getD i default = x ∧ ∀ st, (putS l x).set i { x with State := st } = putS l { x with State := st }
  | [], _ => ⟨0, by simp [putS, List.findIdx?_cons, isK_self], rfl, fun _ => rfl⟩
  | h :: t, ho => by
    unfold putS
    by_cases hx : HLt h x
    · obtain ⟨i, h1, h2, h3⟩ := find_put x t fun y hy => ho y (by simp [hy])
      refine ⟨i + 1, ?_, ?_, fun st => ?_⟩
      · rw [if_pos hx, List.findIdx?_cons, isK_off (ho h (by simp)), h1]; rfl
      · rw [if_pos hx]; exact h2
      · rw [if_pos hx, if_pos (show HLt h { x with State := st } from hx), List.set_cons_succ, h3]
    · refine ⟨0, ?_, ?_, fun st => ?_⟩
      · rw [if_neg hx, List.findIdx?_cons, isK_self]; rfl
      · rw [if_neg hx]; rfl
      · rw [if_neg hx, if_neg (show ¬ HLt h { x with State := st } from hx)]; rfl
theorem Rts_put {l : List THold} {x : THold} (h : Rts l) (hx : HOk x) (ho : ∀ h ∈ l, Off h x) (hn : l.length ≠ 16) : Rts (putS l x) := by
  refine ⟨fun y hy => ?_, putS_sorted x l h.2.1 ho, ?_⟩
  · rcases putS_mem.1 hy with rfl | hy
    · exact hx
    · exact h.1 y hy
  · have := h.2.2
    rw [putS_length]; omega

theorem HoldNew_true (a1 : List THold) (a2 a3 a4 : Int) (a5 : Bool) : usufructlaw06_HoldNew a1 a2 a3 a4 a5 = some true := by
  unfold usufructlaw06_HoldNew
  rw [Few1]
  simp only [Option.bind]
  by_cases hc : a1.length ≤ 40
  · rw [gd_t (by simp [hc]), ref_Rights_eq _ (by omega)]
    simp only []
    by_cases hr : Rts a1 ∧ a3 ≤ 1073741824
    · rw [if_neg (by simp [hc, hr.1]; exact hr.2)]
      rw [loop_find (body := usufructlaw06_HoldNew_L1 a1) a1.length (by omega) (fun i => if 1073741824 < (a1.getD i default).Amount then some (Sum.inr true) else none) (.inl ()) (fun i hi => ?_) (by simp [usufructlaw06_HoldNew_L1])]
      · by_cases hs : ∃ i, i < a1.length ∧ 1073741824 < (a1.getD i default).Amount
        · cases hf : (List.range a1.length).findSome? (fun i => if 1073741824 < (a1.getD i default).Amount then some (Sum.inr true : Unit ⊕ Bool) else none) with
          | none =>
            rw [List.findSome?_eq_none_iff] at hf
            obtain ⟨i, hi, hA⟩ := hs
            have := hf i (by simpa using hi)
            rw [if_pos hA] at this; simp at this
          | some v =>
            obtain ⟨i, hi, hv⟩ := List.exists_of_findSome?_eq_some hf
            split at hv
            · simp only [Option.some.injEq] at hv; subst hv; rfl
            · simp at hv
        · have hsm : ∀ h ∈ a1, 0 ≤ h.Amount ∧ h.Amount ≤ 1073741824 := fun h hm => by
            refine ⟨(hr.1.1 h hm).2.2.2.2.1.1, ?_⟩
            obtain ⟨i, hi, rfl⟩ := List.getElem_of_mem hm
            exact Int.not_lt.1 fun hA => hs ⟨i, hi, by simpa [List.getD, hi] using hA⟩
          have hf : (List.range a1.length).findSome? (fun i => if 1073741824 < (a1.getD i default).Amount then some (Sum.inr true : Unit ⊕ Bool) else none) = none := by
            rw [List.findSome?_eq_none_iff]
            intro i hi
            rw [if_neg]
            exact fun hA => hs ⟨i, by simpa using hi, hA⟩
          rw [hf]
          simp only [Option.getD_none, onS_l]
          rw [hold_Reserve_eq _ _ _ _ (by omega)]
          simp only []
          by_cases hx : HOk (newH a1 a2 a3 a4)
          · by_cases h16 : a1.length = 16
            · rw [ResS_full hr.1 hx h16]; simp [awake_eq]
            · rw [ResS_ok hr.1 hx h16]
              have ho := newH_off (r := a2) (a := a3) (d := a4) hr.1.1
              generalize hX : newH a1 a2 a3 a4 = X at hx ho
              have hXr : X.Replica = a2 := by rw [← hX]; rfl
              have hXn : X.Number = NextN a1 a2 := by rw [← hX]; rfl
              have hXa : X.Amount = a3 := by rw [← hX]; rfl
              have hXs : X.State = 1 := by rw [← hX]; rfl
              have hXe : (⟨a2, NextN a1 a2, a3, a4, 1⟩ : THold) = X := by rw [← hX]; rfl
              have hpl : (putS a1 X).length = a1.length + 1 := putS_length X a1
              rw [if_neg (by simp)]
              simp only []
              rw [hold_Find_eq _ _ _ (by omega), hold_Find_eq _ _ _ (by omega)]
              obtain ⟨i, f1, f2, f3⟩ := find_put X a1 ho
              rw [hXr, hXn] at f1
              have g1 : Fnd a1 a2 (NextN a1 a2) = (default, false) := by
                have := find_off ho
                rw [hXr, hXn] at this
                unfold Fnd; rw [this]
              have g2 : Fnd (putS a1 X) a2 (NextN a1 a2) = (X, true) := by unfold Fnd; rw [f1]; simp only; rw [f2]
              have hRp := Rts_put hr.1 hx ho h16
              have g3 : ∀ st, st = 2 ∨ st = 3 → EndS (putS a1 X) a2 (NextN a1 a2) st = (putS a1 { X with State := st }, a3, 0) := fun st hst => by
                unfold EndS
                rw [if_pos ⟨hRp, hst⟩, f1]
                simp only [f2]
                rw [if_pos hXs, f3, hXa]
              have hRe : ∀ st, st = 2 ∨ st = 3 → Rts (putS a1 { X with State := st }) := fun st hst => Rts_put hr.1 (by unfold HOk Cnt at *; simp only; omega) ho h16
              have hsm2 : ∀ st, ∀ h ∈ putS a1 { X with State := st }, 0 ≤ h.Amount ∧ h.Amount ≤ 1073741824 := fun st h hm => by
                rcases putS_mem.1 hm with rfl | hm
                · exact ⟨hx.2.2.2.2.1.1, by simp only [hXa]; exact hr.2⟩
                · exact hsm h hm
              have hsm1 : ∀ h ∈ putS a1 X, 0 ≤ h.Amount ∧ h.Amount ≤ 1073741824 := fun h hm => by
                rcases putS_mem.1 hm with rfl | hm
                · exact ⟨hx.2.2.2.2.1.1, by rw [hXa]; exact hr.2⟩
                · exact hsm h hm
              have s1 : SumS a1 a2 = tot a2 a1 := sum_tot hsm (by omega)
              have s2 : SumS (putS a1 X) a2 = tot a2 a1 + a3 := by
                rw [sum_tot hsm1 (by have := hr.1.2.2; omega), tot_put, val, if_pos ⟨hXr, hXs⟩, hXa]; omega
              have s3 : ∀ st, st = 2 ∨ st = 3 → SumS (putS a1 { X with State := st }) a2 = tot a2 a1 := fun st hst => by
                rw [sum_tot (hsm2 st) (by rw [putS_length]; have := hr.1.2.2; omega), tot_put, val, if_neg (by simp only; omega)]; omega
              have hw1 : wr .i64 ((a1.length : Int) + 1) = ((a1.length + 1 : Nat) : Int) := wr_succ (by omega)
              have htr := tot_range (r := a2) hsm
              have ha3 : 0 ≤ a3 := by rw [← hXa]; exact hx.2.2.2.2.1.1
              have h16' := hr.1.2.2
              have hw2 : wr .i64 (tot a2 a1 + a3) = tot a2 a1 + a3 := wr_id (by omega)
              simp only [g1, g2]
              cases a5 with
              | true =>
                rw [if_pos rfl, hold_End_eq _ _ _ _ (by omega), g3 2 (.inl rfl)]
                simp only [letM_eq, hXe, hpl, hw1, decide_true, Bool.not_false, Bool.and_self]
                rw [gd_t trivial, gd_t trivial, hold_Sum_eq _ _ (by omega), hold_Sum_eq _ _ (by omega), s1, s2]
                simp only [hw2, decide_true, Bool.and_self]
                rw [gd_t trivial, gd_t trivial, hold_Sum_eq _ _ (by rw [putS_length]; omega), s3 2 (.inl rfl)]
                simp only [decide_true, Bool.and_self]
                rw [gd_t trivial, hold_Rights_eq _ (by omega)]
                simp only [hRp, decide_true, Bool.and_self]
                rw [gd_t trivial, hold_Rights_eq _ (by rw [putS_length]; omega)]
                simp only [hRe 2 (.inl rfl), decide_true, Bool.and_self]
                rw [gd_t trivial, awake_eq]; rfl
              | false =>
                rw [if_neg Bool.false_ne_true, hold_End_eq _ _ _ _ (by omega), g3 3 (.inr rfl)]
                simp only [letM_eq, hXe, hpl, hw1, decide_true, Bool.not_false, Bool.and_self]
                rw [gd_t trivial, gd_t trivial, hold_Sum_eq _ _ (by omega), hold_Sum_eq _ _ (by omega), s1, s2]
                simp only [hw2, decide_true, Bool.and_self]
                rw [gd_t trivial, gd_t trivial, hold_Sum_eq _ _ (by rw [putS_length]; omega), s3 3 (.inr rfl)]
                simp only [decide_true, Bool.and_self]
                rw [gd_t trivial, hold_Rights_eq _ (by omega)]
                simp only [hRp, decide_true, Bool.and_self]
                rw [gd_t trivial, hold_Rights_eq _ (by rw [putS_length]; omega)]
                simp only [hRe 3 (.inr rfl), decide_true, Bool.and_self]
                rw [gd_t trivial, awake_eq]; rfl
          · rw [ResS_no (fun h => hx h.2)]; simp [awake_eq]
      · simp only [usufructlaw06_HoldNew_L1, six_of hi, letM_eq, Option.bind, awake_eq]
        rw [if_pos (by simp; omega)]
        simp only [wr_succ (show i < 1000000000000000 by omega)]
        by_cases hA : 1073741824 < (a1.getD i default).Amount
        · rw [if_pos (by simpa only [decide_eq_true_eq] using hA), if_pos hA]
        · rw [if_neg (by simpa only [decide_eq_true_eq] using hA), if_neg hA]
    · rw [if_pos, awake_eq]
      by_cases h1 : Rts a1 <;> simp [h1] at hr ⊢
      exact .inr hr
  · rw [gd_f (by simp [hc])]
    simp [hc, awake_eq]
end Go.Av
