/- The program's joining tells the same. -/
import Derived.Test.YtohkehlomnfimaaAvLHold6
namespace Go.Av
set_option linter.unusedVariables false
set_option linter.unusedSimpArgs false

theorem findK_putK {K α : Type} [DecidableEq K] (k q : K) (a : α) : ∀ l : List (K × α), findK q (putK k a l) = if k = q then some a else findK q l
  | [] => by simp [putK, findK]
  | p :: r => by
    unfold putK
    by_cases h : p.1 = k
    · rw [if_pos h]
      unfold findK
      by_cases hq : k = q
      · rw [if_pos hq]; simp [hq]
      · rw [if_neg hq, if_neg hq, if_neg (by rw [h]; exact hq)]
    · rw [if_neg h]
      unfold findK
      rw [findK_putK k q a r]
      by_cases hq : k = q
      · rw [if_neg (by rw [← hq]; exact h), if_pos hq]; simp [hq]
      · rw [if_neg hq, if_neg hq]

def keyH (h : THold) : Vector Int 2 := #v[h.Replica, h.Number]
theorem keyH_eq {a b : THold} : keyH a = keyH b ↔ a.Replica = b.Replica ∧ a.Number = b.Number := by
  constructor
  · intro h
    have h0 : (keyH a).get 0 = (keyH b).get 0 := by rw [h]
    have h1 : (keyH a).get 1 = (keyH b).get 1 := by rw [h]
    exact ⟨h0, h1⟩
  · rintro ⟨h1, h2⟩
    unfold keyH; rw [h1, h2]
theorem keyH_ok {h : THold} (hh : HOk h) : okInts (keyH h) = true := by
  unfold HOk at hh
  have e1 : inI64 h.Replica = true := by simp only [inI64, decide_eq_true_eq]; omega
  have e2 : inI64 h.Number = true := by simp only [inI64, decide_eq_true_eq]; omega
  simp [okInts, keyH, e1, e2]

def MapOf (a : List THold) (i : Nat) (m : AMap (Vector Int 2) Int okInts) : Prop :=
  (∀ j, j < i → findK (keyH (a.getD j default)) m.es = some (j : Int)) ∧ ∀ k v, findK k m.es = some v → ∃ j : Nat, j < i ∧ v = (j : Int) ∧ keyH (a.getD j default) = k
theorem sorted_at {a : List THold} (h : a.Pairwise HLt) {i j : Nat} (hi : i < a.length) (hj : j < a.length) (hk : (a.getD i default).Replica = (a.getD j default).Replica ∧ (a.getD i default).Number = (a.getD j default).Number) : i = j := by
  rw [show a.getD i default = a[i] by simp [List.getD, hi], show a.getD j default = a[j] by simp [List.getD, hj]] at hk
  exact off_tri (sorted_off h) hi hj fun k => k hk
theorem map_loop (a : List THold) (ha : Rts a) : ∃ m, loopM (hold_Join_L1 a) fuel (0, AMap.empty) = some m ∧ MapOf a a.length m := by
  have hlen := ha.2.2
  refine loopM_ind (fun i s => s.1 = (i : Int) ∧ MapOf a i s.2) a.length (by omega) _ ?_ ?_ ⟨rfl, fun j h => by omega, fun k v h => by simp [AMap.empty, findK] at h⟩
  · rintro i ⟨s1, m⟩ hi ⟨h1, hI, hI2⟩
    simp only at h1 hI hI2
    subst h1
    refine .inl ?_
    have hok : HOk (a.getD i default) := ha.1 _ (by simp [List.getD, hi])
    simp only [hold_Join_L1, six_of hi, letM_eq, Option.bind]
    rw [if_pos (by simp; omega)]
    have hk := keyH_ok hok
    rw [show (#v[(a.getD i default).Replica, (a.getD i default).Number] : Vector Int 2) = keyH (a.getD i default) from rfl]
    unfold AMap.put
    rw [dif_pos hk]
    refine ⟨_, rfl, wr_succ (by omega), fun j hj => ?_, fun k v hv => ?_⟩
    · simp only
      rw [findK_putK]
      rcases Nat.lt_succ_iff_lt_or_eq.1 hj with h | rfl
      · rw [if_neg (fun h3 => by have := sorted_at ha.2.1 hi (by omega) (keyH_eq.1 h3); omega)]
        exact hI j h
      · rw [if_pos rfl]
    · simp only at hv
      rw [findK_putK] at hv
      split at hv
      · rename_i he
        simp only [Option.some.injEq] at hv
        exact ⟨i, by omega, hv.symm, he⟩
      · obtain ⟨j, h1, h2, h3⟩ := hI2 k v hv
        exact ⟨j, by omega, h2, h3⟩
  · rintro ⟨s1, m⟩ ⟨h1, hI⟩
    simp only at h1 hI
    subst h1
    exact ⟨m, by simp [hold_Join_L1], hI⟩

theorem upd_key (s : List THold) (h : THold) (j : Nat) : ((upd s h).getD j default).Replica = (s.getD j default).Replica ∧ ((upd s h).getD j default).Number = (s.getD j default).Number := by
  unfold upd
  rw [List.getD, List.getD, List.getElem?_map]
  cases s[j]? with
  | none => exact ⟨rfl, rfl⟩
  | some x => simp only [Option.map_some, Option.getD_some]; split <;> exact ⟨rfl, rfl⟩
def InvJ (a b : List THold) (i : Nat) (s : List THold) : Prop :=
  s.Pairwise Off ∧ a.length ≤ s.length ∧ s.length ≤ a.length + i ∧ (∀ j, j < a.length → (s.getD j default).Replica = (a.getD j default).Replica ∧ (s.getD j default).Number = (a.getD j default).Number) ∧
    ∀ j, a.length ≤ j → j < s.length → ∃ q, q < i ∧ (s.getD j default).Replica = (b.getD q default).Replica ∧ (s.getD j default).Number = (b.getD q default).Number

theorem InvJ.step {a b s s' : List THold} {i : Nat} (hJ : InvJ a b i s) (hi : i < b.length) (hs : jstep (fun l h => l ++ [h]) s (b.getD i default) = some s') : InvJ a b (i + 1) s' := by
  obtain ⟨h1, h2, h3, h4, h5⟩ := hJ
  unfold jstep at hs
  cases hl : lookH s (b.getD i default).Replica (b.getD i default).Number with
  | none =>
    rw [hl] at hs; simp only [Option.some.injEq] at hs; subst hs
    have hn := lookH_none.1 hl
    refine ⟨?_, by simp; omega, by simp; omega, fun j hj => ?_, fun j hj hj2 => ?_⟩
    · rw [List.pairwise_append]
      refine ⟨h1, by simp, fun x hx y hy => ?_⟩
      rw [List.mem_singleton.1 hy]
      exact fun k => hn x hx k
    · rw [show (s ++ [b.getD i default]).getD j default = s.getD j default by rw [List.getD, List.getElem?_append_left (by omega)]; rfl]
      exact h4 j hj
    · by_cases hj3 : j < s.length
      · rw [show (s ++ [b.getD i default]).getD j default = s.getD j default by rw [List.getD, List.getElem?_append_left hj3]; rfl]
        obtain ⟨q, h6, h7⟩ := h5 j hj hj3
        exact ⟨q, by omega, h7⟩
      · simp only [List.length_append, List.length_singleton] at hj2
        obtain rfl : j = s.length := by omega
        rw [show (s ++ [b.getD i default]).getD s.length default = b.getD i default by rw [List.getD, List.getElem?_append_right (Nat.le_refl _), Nat.sub_self]; rfl]
        exact ⟨i, by omega, rfl, rfl⟩
  | some x =>
    rw [hl] at hs; simp only at hs
    split at hs
    · simp only [Option.some.injEq] at hs; subst hs
      have hle : (upd s (b.getD i default)).length = s.length := by simp only [upd, List.length_map]
      refine ⟨upd_off _ h1, by omega, by omega, fun j hj => ?_, fun j hj hj2 => ?_⟩
      · rw [(upd_key s _ j).1, (upd_key s _ j).2]; exact h4 j hj
      · obtain ⟨q, h6, h7⟩ := h5 j hj (by omega)
        exact ⟨q, by omega, by rw [(upd_key s _ j).1, (upd_key s _ j).2]; exact h7⟩
    · cases hs

theorem hold_Join_eq (a b : List THold) (ha : a.length ≤ 1000000) (hb : b.length ≤ 1000000) : hold_Join a b = some (JS a b) := by
  unfold hold_Join JS
  rw [hold_Rights_eq a (by omega)]
  simp only [Option.bind]
  by_cases h1 : Rts a
  · rw [gd_t (by simp [h1]), hold_Rights_eq b (by omega)]
    simp only []
    by_cases h2 : Rts b
    · rw [if_neg (by simp [h1, h2]), if_pos ⟨h1, h2⟩, app_of (by simp; omega)]
      simp only [List.nil_append]
      obtain ⟨m, hm, hM1, hM2⟩ := map_loop a h1
      rw [hm]
      simp only []
      have hbl := h2.2.2
      have hinv0 : InvJ a b 0 a := ⟨sorted_off h1.2.1, by omega, by omega, fun j _ => ⟨rfl, rfl⟩, fun j hj hj2 => by omega⟩
      have key := loop_foldO (body := hold_Join_L2 b m) b (by omega) (jstep fun l h => l ++ [h]) id (([] : List THold), (1 : Int)) (InvJ a b) hinv0 (fun i s hi hJ => ⟨?_, fun s' hs => hJ.step hi hs⟩) (fun s hs => by simp [hold_Join_L2])
      · rw [key.1]
        unfold Jn
        rcases fold_perm b (List.Perm.refl a) h1.2.1 with ⟨e1, e2⟩ | ⟨l', m', e1, e2, e3, e4⟩
        · rw [e1, e2]; rfl
        · rw [e1, e2]
          have hln : l'.length = m'.length := e3.length_eq
          have hl3 := (key.2 l' e1).2.2.1
          simp only [onS_l, id]
          by_cases h16 : 16 < m'.length
          · rw [if_pos (by simp; omega), if_pos h16]
          · rw [if_neg (by simp; omega), if_neg h16]
            simp only [sortM]
            rw [if_pos (by omega), sort_uniq e3 e4]
      · obtain ⟨g1, g2, g3, g4, g5⟩ := hJ
        have hok : HOk (b.getD i default) := h2.1 _ (by simp [List.getD, hi])
        have hk := keyH_ok hok
        simp only [hold_Join_L2, six_of hi, letM_eq, Option.bind]
        rw [if_pos (by simp; omega)]
        rw [show (#v[(b.getD i default).Replica, (b.getD i default).Number] : Vector Int 2) = keyH (b.getD i default) from rfl]
        simp only [AMap.get]
        rw [if_pos hk]
        simp only [wr_succ (show i < 1000000000000000 by omega)]
        cases hf : findK (keyH (b.getD i default)) m.es with
        | none =>
          have hl : lookH s (b.getD i default).Replica (b.getD i default).Number = none := by
            rw [lookH_none]
            intro x hx hxk
            obtain ⟨j, hj, rfl⟩ := List.getElem_of_mem hx
            have e : s.getD j default = s[j] := by simp [List.getD, hj]
            rw [← e] at hxk
            by_cases hja : j < a.length
            · have h6 := g4 j hja
              have h7 := hM1 j hja
              rw [show keyH (a.getD j default) = keyH (b.getD i default) from keyH_eq.2 ⟨by omega, by omega⟩, hf] at h7
              cases h7
            · obtain ⟨q, h6, h7⟩ := g5 j (by omega) hj
              have := sorted_at h2.2.1 (i := q) (j := i) (by omega) hi ⟨by omega, by omega⟩
              omega
          rw [if_pos (by rfl), app_of (by simp; omega)]
          simp only [jstep, hl]
        | some v =>
          obtain ⟨j, hj, rfl, hjk⟩ := hM2 _ v hf
          have hjk := keyH_eq.1 hjk
          have h6 := g4 j hj
          have hjs : j < s.length := by omega
          obtain ⟨u1, u2⟩ := upd_set g1 hjs (isK_iff.2 ⟨by omega, by omega⟩ : isK (b.getD i default).Replica (b.getD i default).Number (s.getD j default) = true)
          rw [if_neg (by simp)]
          simp only [Option.getD_some, six_of hjs, jstep, u2]
          by_cases hA : (s.getD j default).Amount = (b.getD i default).Amount
          · rw [gd_t (by rw [decide_eq_true hA]; rfl)]
            simp only []
            by_cases hD : (s.getD j default).Due = (b.getD i default).Due
            · rw [if_neg (by rw [decide_eq_true hA, decide_eq_true hD]; decide), if_pos ⟨hA, hD⟩, ← u1]
              rfl
            · rw [if_pos (by rw [decide_eq_false hD]; simp), if_neg (fun x => hD x.2)]
          · rw [gd_f (by rw [decide_eq_false hA]; decide)]
            simp only []
            rw [if_pos (by rw [decide_eq_false hA]; rfl), if_neg (fun x => hA x.1)]
    · rw [if_pos (by simp [h2]), if_neg (fun x => h2 x.2)]
  · rw [gd_f (by simp [h1]), if_neg (fun x => h1 x.1)]
    simp [h1]

theorem JS_len (a b : List THold) : (JS a b).1.length ≤ 16 := by
  unfold JS
  split
  · split
    · simp
    · split
      · simp
      · simp only; omega
  · simp
theorem HoldJoins_true (a1 a2 : List THold) : usufructlaw06_HoldJoins a1 a2 = some true := by
  unfold usufructlaw06_HoldJoins
  rw [Few_eq _ (by simp)]
  simp only [Option.bind]
  by_cases hc : ∀ l ∈ [a1, a2], l.length ≤ 40
  · have c1 := hc a1 (by simp)
    have c2 := hc a2 (by simp)
    rw [if_neg (by rw [decide_eq_true hc]; decide), hold_Join_eq _ _ (by omega) (by omega), ref_Join_eq _ _ (by omega) (by omega)]
    simp only []
    rw [Same_eq _ _ (by have := JS_len a1 a2; omega)]
    simp only [decide_true, Bool.and_self]
    rw [gd_t trivial, awake_eq]; rfl
  · rw [if_pos (by rw [decide_eq_false hc]; rfl), awake_eq]
end Go.Av
