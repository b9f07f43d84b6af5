/- Joining: in whatever order, told by its keys. -/
import Derived.Test.YtohkehlomnfimaaAvLHold7
namespace Go.Av
set_option linter.unusedVariables false
set_option linter.unusedSimpArgs false

def jo : Option THold → Option THold → Option THold
  | none, y => y
  | some x, none => some x
  | some x, some y => some (bump x y)
def cf : Option THold → Option THold → Prop
  | some x, some y => ¬ fits x y
  | _, _ => False
theorem fits.symm {x y : THold} (h : fits x y) : fits y x := ⟨h.1.symm, h.2.symm⟩

theorem sorted_ext {l m : List THold} (hl : l.Pairwise HLt) (hm : m.Pairwise HLt) (h : ∀ r n, lookH l r n = lookH m r n) : l = m := by
  have nd : ∀ {l : List THold}, l.Pairwise HLt → l.Nodup := fun h => h.imp fun {a b} k e => by subst e; unfold HLt at k; omega
  have hp : l.Perm m := by
    rw [List.perm_ext_iff_of_nodup (nd hl) (nd hm)]
    intro x
    have h1 := lookH_iff (x := x) (r := x.Replica) (n := x.Number) (sorted_off hl)
    have h2 := lookH_iff (x := x) (r := x.Replica) (n := x.Number) (sorted_off hm)
    simp only [and_self, and_true] at h1 h2
    rw [← h1, ← h2, h]
  exact List.Perm.eq_of_pairwise (le := HLt) (fun a b _ _ h1 h2 => by unfold HLt at *; omega) hl hm hp

theorem look_put {m : List THold} {h : THold} (ho : ∀ x ∈ m, Off x h) (hm : m.Pairwise HLt) (r n : Int) : lookH (putS m h) r n = if isK r n h = true then some h else lookH m r n := by
  have hs := sorted_off (putS_sorted h m hm ho)
  by_cases hk : isK r n h = true
  · rw [if_pos hk, lookH_iff hs]
    exact ⟨putS_mem.2 (.inl rfl), isK_iff.1 hk⟩
  · rw [if_neg hk]
    cases hc : lookH m r n with
    | none =>
      rw [lookH_none] at hc ⊢
      intro x hx
      rcases putS_mem.1 hx with rfl | hx
      · exact fun k => hk (isK_iff.2 k)
      · exact hc x hx
    | some x =>
      rw [lookH_iff (sorted_off hm)] at hc
      rw [lookH_iff hs]
      exact ⟨putS_mem.2 (.inr hc.1), hc.2⟩
theorem look_upd {m : List THold} {h : THold} (hm : m.Pairwise HLt) (r n : Int) : lookH (upd m h) r n = (lookH m r n).map fun x => if isK r n h = true then bump x h else x := by
  have hs := sorted_off (upd_sorted h hm)
  cases hc : lookH m r n with
  | none =>
    rw [lookH_none] at hc
    rw [Option.map_none, lookH_none]
    intro x hx
    obtain ⟨y, hy, rfl⟩ := List.mem_map.1 hx
    have := hc y hy
    split <;> exact this
  | some x =>
    rw [lookH_iff (sorted_off hm)] at hc
    rw [Option.map_some, lookH_iff hs]
    have e : isK h.Replica h.Number x = isK r n h := by
      apply Bool.eq_iff_iff.2
      rw [isK_iff, isK_iff]; omega
    refine ⟨List.mem_map.2 ⟨x, hc.1, by rw [e]⟩, ?_⟩
    split <;> exact hc.2

/-- A step: the hold that comes is joined at its key. -/
theorem step_look {m : List THold} {h : THold} (hm : m.Pairwise HLt) : (jstep putS m h = none ∧ cf (lookH m h.Replica h.Number) (some h)) ∨ (¬ cf (lookH m h.Replica h.Number) (some h) ∧ ∃ m', jstep putS m h = some m' ∧ m'.Pairwise HLt ∧ ∀ r n, lookH m' r n = jo (lookH m r n) (if isK r n h = true then some h else none)) := by
  unfold jstep
  cases hc : lookH m h.Replica h.Number with
  | none =>
    have ho : ∀ x ∈ m, Off x h := fun x hx hk => lookH_none.1 hc x hx hk
    refine .inr ⟨fun k => k, _, rfl, putS_sorted h m hm ho, fun r n => ?_⟩
    rw [look_put ho hm]
    by_cases hk : isK r n h = true
    · rw [if_pos hk, if_pos hk]
      obtain ⟨k1, k2⟩ := isK_iff.1 hk
      rw [← k1, ← k2, hc]; rfl
    · rw [if_neg hk, if_neg hk]
      cases lookH m r n <;> rfl
  | some x =>
    simp only
    by_cases hf : fits x h
    · rw [if_pos hf]
      refine .inr ⟨fun k => k hf, _, rfl, upd_sorted h hm, fun r n => ?_⟩
      rw [look_upd hm]
      by_cases hk : isK r n h = true
      · obtain ⟨k1, k2⟩ := isK_iff.1 hk
        simp only [if_pos hk]
        rw [← k1, ← k2, hc]; rfl
      · simp only [if_neg hk]
        cases lookH m r n <;> rfl
    · rw [if_neg hf]; exact .inl ⟨rfl, hf⟩

theorem lookH_cons {h : THold} {t : List THold} (r n : Int) : lookH (h :: t) r n = if isK r n h = true then some h else lookH t r n := by
  unfold lookH
  rw [List.find?_cons]
  by_cases hk : isK r n h = true
  · rw [if_pos hk, hk]
  · rw [if_neg hk, Bool.eq_false_iff.2 hk]

theorem fold_look : ∀ (b m : List THold), m.Pairwise HLt → b.Pairwise HLt → (foldO (jstep putS) m b = none ∧ ∃ r n, cf (lookH m r n) (lookH b r n)) ∨ ((∀ r n, ¬ cf (lookH m r n) (lookH b r n)) ∧ ∃ m', foldO (jstep putS) m b = some m' ∧ m'.Pairwise HLt ∧ ∀ r n, lookH m' r n = jo (lookH m r n) (lookH b r n))
  | [], m, hm, _ => .inr ⟨fun r n h => by cases hc : lookH m r n <;> rw [hc] at h <;> exact h, m, rfl, hm, fun r n => by cases hc : lookH m r n <;> rfl⟩
  | h :: t, m, hm, hb => by
    rw [List.pairwise_cons] at hb
    have hself : lookH (h :: t) h.Replica h.Number = some h := by rw [lookH_cons, if_pos (isK_self h)]
    have htn : ∀ r n, isK r n h = true → lookH t r n = none := fun r n hk => lookH_none.2 fun x hx k => by
      have := (hb.1 x hx).off.1
      have := isK_iff.1 hk
      unfold Off at *; omega
    rcases step_look (h := h) hm with ⟨h1, h2⟩ | ⟨h1, m', h2, h3, h4⟩
    · exact .inl ⟨by simp only [foldO, h1], h.Replica, h.Number, by rw [hself]; exact h2⟩
    · have e : ∀ r n, cf (lookH m r n) (lookH (h :: t) r n) ↔ cf (lookH m' r n) (lookH t r n) := fun r n => by
        rw [h4, lookH_cons]
        by_cases hk : isK r n h = true
        · simp only [if_pos hk]
          rw [htn r n hk]
          obtain ⟨k1, k2⟩ := isK_iff.1 hk
          rw [k1, k2] at h1
          refine ⟨fun k => (h1 k).elim, fun k => ?_⟩
          cases hc : lookH m r n <;> rw [hc] at k <;> exact k.elim
        · simp only [if_neg hk]
          cases lookH m r n <;> exact Iff.rfl
      have e2 : ∀ r n, jo (lookH m' r n) (lookH t r n) = jo (lookH m r n) (lookH (h :: t) r n) := fun r n => by
        rw [h4, lookH_cons]
        by_cases hk : isK r n h = true
        · simp only [if_pos hk]
          rw [htn r n hk]
          cases lookH m r n <;> rfl
        · simp only [if_neg hk]
          cases lookH m r n <;> rfl
      simp only [foldO, h2]
      rcases fold_look t m' h3 hb.2 with ⟨g1, r, n, g2⟩ | ⟨g1, m2, g2, g3, g4⟩
      · exact .inl ⟨g1, r, n, (e r n).2 g2⟩
      · exact .inr ⟨fun r n k => g1 r n ((e r n).1 k), m2, g2, g3, fun r n => by rw [g4, e2]⟩

theorem Jn_look {a b : List THold} (ha : a.Pairwise HLt) (hb : b.Pairwise HLt) : (Jn a b = none ∧ ∃ r n, cf (lookH a r n) (lookH b r n)) ∨ ((∀ r n, ¬ cf (lookH a r n) (lookH b r n)) ∧ ∃ m', Jn a b = some m' ∧ m'.Pairwise HLt ∧ ∀ r n, lookH m' r n = jo (lookH a r n) (lookH b r n)) := fold_look b a ha hb

theorem cf_symm {x y : Option THold} (h : cf x y) : cf y x := by
  cases x <;> cases y <;> first | exact h.elim | exact fun k => h k.symm
theorem look_key {l : List THold} {r n : Int} {x : THold} (h : lookH l r n = some x) : x.Replica = r ∧ x.Number = n := isK_iff.1 (List.find?_some h)
theorem jo_comm {a b : List THold} {r n : Int} (h : ¬ cf (lookH a r n) (lookH b r n)) : jo (lookH a r n) (lookH b r n) = jo (lookH b r n) (lookH a r n) := by
  cases h1 : lookH a r n with
  | none => cases h2 : lookH b r n <;> rfl
  | some x =>
    cases h2 : lookH b r n with
    | none => rfl
    | some y =>
      rw [h1, h2] at h
      have hf : fits x y := Classical.not_not.1 h
      have k1 := look_key h1
      have k2 := look_key h2
      simp only [jo, bump, Option.some.injEq]
      obtain ⟨x1, x2, x3, x4, x5⟩ := x
      obtain ⟨y1, y2, y3, y4, y5⟩ := y
      simp only [fits] at hf k1 k2
      simp only [THold.mk.injEq]
      exact ⟨by omega, by omega, hf.1, hf.2, Int.max_comm _ _⟩
theorem jo_assoc (x y z : Option THold) : jo (jo x y) z = jo x (jo y z) := by
  cases x <;> cases y <;> cases z <;> first | rfl | skip
  simp only [jo, bump, Int.max_assoc]
theorem cf_assoc {x y z : Option THold} (h1 : ¬ cf x y) (h2 : ¬ cf y z) : cf (jo x y) z ↔ cf x (jo y z) := by
  cases x with
  | none => cases y <;> cases z <;> first | exact Iff.rfl | exact ⟨fun h => (h2 h).elim, fun h => h.elim⟩
  | some x =>
    cases y with
    | none => cases z <;> exact Iff.rfl
    | some y =>
      cases z with
      | none => exact ⟨fun h => h.elim, fun h => (h1 h).elim⟩
      | some z =>
        have f1 : fits x y := Classical.not_not.1 h1
        have f2 : fits y z := Classical.not_not.1 h2
        have g1 : fits (bump x y) z := ⟨f1.1.trans f2.1, f1.2.trans f2.2⟩
        have g2 : fits x (bump y z) := ⟨f1.1, f1.2⟩
        exact ⟨fun h => (h g1).elim, fun h => (h g2).elim⟩

theorem sub_len : ∀ (l m : List (Int × Int)), l.Nodup → (∀ x ∈ l, x ∈ m) → l.length ≤ m.length
  | [], m, _, _ => by simp
  | x :: t, m, hn, hs => by
    rw [List.nodup_cons] at hn
    have hx := hs x (by simp)
    have := sub_len t (m.erase x) hn.2 fun y hy => (List.mem_erase_of_ne fun e => hn.1 (by subst e; exact hy)).2 (hs y (by simp [hy]))
    rw [List.length_erase_of_mem hx] at this
    have : 0 < m.length := List.length_pos_of_mem hx
    simp only [List.length_cons]; omega
theorem keys_len {l m : List THold} (hl : l.Pairwise HLt) (h : ∀ r n, lookH l r n ≠ none → lookH m r n ≠ none) : l.length ≤ m.length := by
  have := sub_len (l.map fun x => (x.Replica, x.Number)) (m.map fun x => (x.Replica, x.Number)) ?_ ?_
  · simpa using this
  · rw [List.Nodup, List.pairwise_map]
    exact hl.imp fun {a b} k e => by
      simp only [Prod.mk.injEq] at e
      unfold HLt at k; omega
  · intro k hk
    obtain ⟨x, hx, rfl⟩ := List.mem_map.1 hk
    have h1 : lookH l x.Replica x.Number = some x := (lookH_iff (sorted_off hl)).2 ⟨hx, rfl, rfl⟩
    have h2 := h x.Replica x.Number (by rw [h1]; simp)
    cases hc : lookH m x.Replica x.Number with
    | none => exact (h2 hc).elim
    | some y =>
      have hk := look_key hc
      exact List.mem_map.2 ⟨y, List.mem_of_find?_eq_some hc, by rw [hk.1, hk.2]⟩

theorem look_mem {l : List THold} {r n : Int} {x : THold} (h : lookH l r n = some x) : x ∈ l := List.mem_of_find?_eq_some h
theorem Rts_join {a b m : List THold} (ha : Rts a) (hb : Rts b) (hm : m.Pairwise HLt) (hl : ∀ r n, lookH m r n = jo (lookH a r n) (lookH b r n)) (h16 : m.length ≤ 16) : Rts m := by
  refine ⟨fun z hz => ?_, hm, h16⟩
  have h1 : lookH m z.Replica z.Number = some z := (lookH_iff (sorted_off hm)).2 ⟨hz, rfl, rfl⟩
  rw [hl] at h1
  cases h2 : lookH a z.Replica z.Number with
  | none => rw [h2] at h1; exact hb.1 z (look_mem h1)
  | some x =>
    rw [h2] at h1
    have hx := ha.1 x (look_mem h2)
    cases h3 : lookH b z.Replica z.Number with
    | none => rw [h3] at h1; simp only [jo, Option.some.injEq] at h1; subst h1; exact hx
    | some y =>
      rw [h3] at h1
      have hy := hb.1 y (look_mem h3)
      simp only [jo, Option.some.injEq] at h1
      subst h1
      unfold HOk Cnt at *; simp only [bump]; omega

/-- What joining tells, by cases. -/
theorem JS_cases (a b : List THold) : (JS a b = ([], 1) ∧ ¬ (Rts a ∧ Rts b)) ∨ (Rts a ∧ Rts b ∧ JS a b = ([], 1) ∧ ∃ r n, cf (lookH a r n) (lookH b r n)) ∨ (Rts a ∧ Rts b ∧ (∀ r n, ¬ cf (lookH a r n) (lookH b r n)) ∧ ∃ m, m.Pairwise HLt ∧ (∀ r n, lookH m r n = jo (lookH a r n) (lookH b r n)) ∧ ((16 < m.length ∧ JS a b = ([], 7)) ∨ (m.length ≤ 16 ∧ JS a b = (m, 0) ∧ Rts m))) := by
  by_cases h : Rts a ∧ Rts b
  · rcases Jn_look h.1.2.1 h.2.2.1 with ⟨h1, h2⟩ | ⟨h1, m, h2, h3, h4⟩
    · refine .inr (.inl ⟨h.1, h.2, ?_, h2⟩)
      unfold JS; rw [if_pos h, h1]
    · refine .inr (.inr ⟨h.1, h.2, h1, m, h3, h4, ?_⟩)
      unfold JS
      rw [if_pos h, h2]
      by_cases h16 : 16 < m.length
      · exact .inl ⟨h16, by simp only; rw [if_pos h16]⟩
      · exact .inr ⟨by omega, by simp only; rw [if_neg h16], Rts_join h.1 h.2 h3 h4 (by omega)⟩
  · exact .inl ⟨by unfold JS; rw [if_neg h], h⟩

theorem JS_comm (a b : List THold) : JS a b = JS b a := by
  rcases JS_cases a b with ⟨h1, h2⟩ | ⟨ha, hb, h1, r, n, h2⟩ | ⟨ha, hb, h1, m, h2, h3, h4⟩
  · rcases JS_cases b a with ⟨g1, _⟩ | ⟨g1, g2, _⟩ | ⟨g1, g2, _⟩
    · rw [h1, g1]
    · exact (h2 ⟨g2, g1⟩).elim
    · exact (h2 ⟨g2, g1⟩).elim
  · rcases JS_cases b a with ⟨g1, g2⟩ | ⟨_, _, g1, _⟩ | ⟨_, _, g1, _⟩
    · rw [h1, g1]
    · rw [h1, g1]
    · exact (g1 r n (cf_symm h2)).elim
  · rcases JS_cases b a with ⟨g1, g2⟩ | ⟨_, _, g1, r, n, g2⟩ | ⟨_, _, g1, m2, g2, g3, g4⟩
    · exact (g2 ⟨hb, ha⟩).elim
    · exact (h1 r n (cf_symm g2)).elim
    · obtain rfl : m = m2 := sorted_ext h2 g2 fun r n => by rw [h3, g3, jo_comm (h1 r n)]
      rcases h4 with ⟨h5, h6⟩ | ⟨h5, h6, h7⟩ <;> rcases g4 with ⟨g5, g6⟩ | ⟨g5, g6, g7⟩
      · rw [h6, g6]
      · omega
      · omega
      · rw [h6, g6]
theorem JS_idem (a : List THold) : (Rts a ∧ JS a a = (a, 0)) ∨ (¬ Rts a ∧ JS a a = ([], 1)) := by
  rcases JS_cases a a with ⟨h1, h2⟩ | ⟨ha, hb, h1, r, n, h2⟩ | ⟨ha, hb, h1, m, h2, h3, h4⟩
  · exact .inr ⟨fun h => h2 ⟨h, h⟩, h1⟩
  · cases hc : lookH a r n <;> rw [hc] at h2
    · exact h2.elim
    · exact (h2 ⟨rfl, rfl⟩).elim
  · obtain rfl : m = a := sorted_ext h2 ha.2.1 fun r n => by
      rw [h3]
      cases lookH a r n with
      | none => rfl
      | some x => simp only [jo, bump, Int.max_self]
    rcases h4 with ⟨h5, h6⟩ | ⟨h5, h6, h7⟩
    · have := ha.2.2; omega
    · exact .inl ⟨ha, h6⟩
theorem JS_zero {a b : List THold} (h : (JS a b).2 = 0) : Rts a ∧ Rts b ∧ (∀ r n, ¬ cf (lookH a r n) (lookH b r n)) ∧ ∃ m, Rts m ∧ JS a b = (m, 0) ∧ ∀ r n, lookH m r n = jo (lookH a r n) (lookH b r n) := by
  rcases JS_cases a b with ⟨h1, h2⟩ | ⟨ha, hb, h1, r, n, h2⟩ | ⟨ha, hb, h1, m, h2, h3, h4⟩
  · rw [h1] at h; cases h
  · rw [h1] at h; cases h
  · rcases h4 with ⟨h5, h6⟩ | ⟨h5, h6, h7⟩
    · rw [h6] at h; cases h
    · exact ⟨ha, hb, h1, m, h7, h6, h3⟩
theorem JS_fail {a b : List THold} (h : (JS a b).2 ≠ 0) : (JS a b).1 = [] := by
  rcases JS_cases a b with ⟨h1, h2⟩ | ⟨ha, hb, h1, r, n, h2⟩ | ⟨ha, hb, h1, m, h2, h3, h4⟩
  · rw [h1]
  · rw [h1]
  · rcases h4 with ⟨h5, h6⟩ | ⟨h5, h6, h7⟩
    · rw [h6]
    · rw [h6] at h; exact (h rfl).elim
/-- If a join of the latter two fails, so does the whole. -/
theorem JS_down {a b c m : List THold} (h : JS a b = (m, 0)) (hf : (JS b c).2 ≠ 0) : (JS m c).2 ≠ 0 := by
  intro h0
  obtain ⟨_, hb, n1, m', hm, e, hl⟩ := JS_zero (a := a) (b := b) (by rw [h])
  rw [h] at e; simp only [Prod.mk.injEq, and_true] at e; subst e
  obtain ⟨_, hc, n2, m2, hm2, e2, hl2⟩ := JS_zero h0
  rcases JS_cases b c with ⟨h1, h2⟩ | ⟨_, _, h1, r, n, h2⟩ | ⟨_, _, h1, m3, h2, h3, h4⟩
  · exact h2 ⟨hb, hc⟩
  · refine n2 r n ?_
    rw [hl]
    have := n1 r n
    cases hA : lookH a r n with
    | none => exact h2
    | some x =>
      cases hB : lookH b r n with
      | none => rw [hB] at h2; exact h2.elim
      | some y =>
        cases hC : lookH c r n with
        | none => rw [hB, hC] at h2; exact h2.elim
        | some z =>
          rw [hB, hC] at h2
          rw [hA, hB] at this
          have f1 : fits x y := Classical.not_not.1 this
          exact fun k => h2 ⟨f1.1.symm.trans k.1, f1.2.symm.trans k.2⟩
  · rcases h4 with ⟨h5, h6⟩ | ⟨h5, h6, h7⟩
    · have := keys_len (m := m2) h2 fun r n k k2 => k (by
        rw [h3]
        rw [hl2, hl, jo_assoc] at k2
        cases hA : lookH a r n with
        | none => rw [hA] at k2; exact k2
        | some x =>
          rw [hA] at k2
          cases hB : jo (lookH b r n) (lookH c r n) <;> rw [hB] at k2 <;> simp [jo] at k2)
      have := hm2.2.2
      omega
    · rw [h6] at hf; exact hf rfl
theorem JS_assoc {a b c m m2 : List THold} (h : JS a b = (m, 0)) (k : JS b c = (m2, 0)) : JS m c = JS a m2 := by
  obtain ⟨ha, hb, n1, m', hm, e, hl⟩ := JS_zero (a := a) (b := b) (by rw [h])
  rw [h] at e; simp only [Prod.mk.injEq, and_true] at e; subst e
  obtain ⟨_, hc, n2, m', hm2, e, hl2⟩ := JS_zero (a := b) (b := c) (by rw [k])
  rw [k] at e; simp only [Prod.mk.injEq, and_true] at e; subst e
  have hcf : ∀ r n, cf (lookH m r n) (lookH c r n) ↔ cf (lookH a r n) (lookH m2 r n) := fun r n => by rw [hl, hl2]; exact cf_assoc (n1 r n) (n2 r n)
  rcases JS_cases m c with ⟨h1, h2⟩ | ⟨_, _, h1, r, n, h2⟩ | ⟨_, _, h1, m3, h2, h3, h4⟩
  · exact (h2 ⟨hm, hc⟩).elim
  · rcases JS_cases a m2 with ⟨g1, g2⟩ | ⟨_, _, g1, _⟩ | ⟨_, _, g1, _⟩
    · exact (g2 ⟨ha, hm2⟩).elim
    · rw [h1, g1]
    · exact (g1 r n ((hcf r n).1 h2)).elim
  · rcases JS_cases a m2 with ⟨g1, g2⟩ | ⟨_, _, g1, r, n, g2⟩ | ⟨_, _, g1, m4, g2, g3, g4⟩
    · exact (g2 ⟨ha, hm2⟩).elim
    · exact (h1 r n ((hcf r n).2 g2)).elim
    · obtain rfl : m3 = m4 := sorted_ext h2 g2 fun r n => by rw [h3, g3, hl, hl2, jo_assoc]
      rcases h4 with ⟨h5, h6⟩ | ⟨h5, h6, h7⟩ <;> rcases g4 with ⟨g5, g6⟩ | ⟨g5, g6, g7⟩
      · rw [h6, g6]
      · omega
      · omega
      · rw [h6, g6]

theorem HoldLaws_true (a1 a2 a3 : List THold) : usufructlaw06_HoldLaws a1 a2 a3 = some true := by
  unfold usufructlaw06_HoldLaws
  rw [Few_eq _ (by simp)]
  simp only [Option.bind]
  by_cases hc : ∀ l ∈ [a1, a2, a3], l.length ≤ 40
  · have c1 := hc a1 (by simp)
    have c2 := hc a2 (by simp)
    have c3 := hc a3 (by simp)
    rw [if_neg (by rw [decide_eq_true hc]; decide), hold_Join_eq _ _ (by omega) (by omega), hold_Join_eq _ _ (by omega) (by omega), hold_Join_eq _ _ (by omega) (by omega)]
    simp only []
    have l1 := JS_len a1 a2
    rw [JS_comm a2 a1, Same_eq _ _ (by omega)]
    simp only [decide_true, Bool.not_true, Bool.or_self, Bool.false_or, letM_eq]
    have hi : gd (False = False ∧ True) (some true) = some true := rfl
    rcases JS_idem a1 with ⟨hr, e⟩ | ⟨hr, e⟩
    · rw [e]
      simp only [decide_true]
      rw [gd_t (by decide), Same_eq _ _ (by omega)]
      simp only [decide_true, Bool.not_true, Bool.and_false]
      rw [gd_t trivial, ref_Rights_eq _ (by omega)]
      simp only [hr, decide_true, beq_self_eq_true, Bool.not_true]
      rw [if_neg (by decide)]
      by_cases h0 : (JS a1 a2).2 = 0
      · rw [if_neg (by rw [decide_eq_true h0]; decide), hold_Join_eq _ _ (by omega) (by omega), hold_Join_eq _ _ (by omega) (by omega)]
        simp only []
        obtain ⟨_, _, _, m, hm, em, _⟩ := JS_zero h0
        rw [em]
        simp only []
        by_cases h1 : (JS a2 a3).2 = 0
        · obtain ⟨_, _, _, m2, hm2, em2, _⟩ := JS_zero h1
          rw [if_neg (by rw [decide_eq_true h1]; decide), em2]
          simp only []
          rw [hold_Join_eq _ _ (by omega) (by have := hm2.2.2; omega)]
          simp only []
          rw [JS_assoc em em2, Same_eq _ _ (by have := JS_len a1 m2; omega)]
          simp only [decide_true, Bool.and_self]
          rw [gd_t trivial, hold_Rights_eq _ (by have := hm.2.2; omega)]
          simp only [hm, decide_true, Bool.and_self]
          rw [gd_t trivial, awake_eq]; rfl
        · rw [if_pos (by rw [decide_eq_false h1]; rfl)]
          have hd := JS_down em h1
          rw [gd_t (by rw [decide_eq_false hd]; rfl), awake_eq]
          simp only [decide_eq_false hd]; rfl
      · rw [if_pos (by rw [decide_eq_false h0]; rfl), JS_fail h0]
        rw [gd_t (by simp), awake_eq]; simp
    · rw [e]
      simp only [show ((1 : Int) = 0) = False from by simp, decide_false, Bool.false_and]
      rw [gd_f (by simp)]
      simp only []
      rw [gd_t trivial, ref_Rights_eq _ (by omega)]
      simp only [hr, decide_false]
      rw [if_neg (by decide)]
      have h0 : (JS a1 a2).2 ≠ 0 := fun h => hr (JS_zero h).1
      rw [if_pos (by rw [decide_eq_false h0]; rfl), JS_fail h0]
      rw [gd_t (by simp), awake_eq]; simp
  · rw [if_pos (by rw [decide_eq_false hc]; rfl), awake_eq]
end Go.Av
