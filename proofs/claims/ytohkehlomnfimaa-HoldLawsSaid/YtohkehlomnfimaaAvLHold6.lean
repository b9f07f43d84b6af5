/- Two lists of holds, joined. -/
import Derived.Test.YtohkehlomnfimaaAvLHold5
namespace Go.Av
set_option linter.unusedVariables false
set_option linter.unusedSimpArgs false

def foldO {α σ : Type} (f : σ → α → Option σ) : σ → List α → Option σ
  | s, [] => some s
  | s, x :: t => match f s x with
    | none => none
    | some s' => foldO f s' t
theorem loop_foldO' {α σ ξ ρ : Type} [Inhabited α] (l : List α) {body : Int × σ → Option ((Int × σ) ⊕ (ξ ⊕ ρ))} (f : σ → α → Option σ) (out : σ → ξ) (e : ρ) (J : Nat → σ → Prop)
    (hb : ∀ i s, i < l.length → J i s → body ((i : Int), s) = some (match f s (l.getD i default) with | some s' => .inl ((((i + 1 : Nat)) : Int), s') | none => .inr (.inr e)) ∧ ∀ s', f s (l.getD i default) = some s' → J (i + 1) s')
    (hf : ∀ s, J l.length s → body ((l.length : Int), s) = some (.inr (.inl (out s)))) :
    ∀ (k i : Nat) (s : σ), i + k = l.length → J i s → ∀ n, k < n → loopM body n ((i : Int), s) = some (match foldO f s (l.drop i) with | some s => .inl (out s) | none => .inr e) ∧ ∀ s', foldO f s (l.drop i) = some s' → J l.length s'
  | k, i, s, hk, hI, 0, hn => by omega
  | 0, i, s, hk, hI, n + 1, hn => by
    obtain rfl : i = l.length := by omega
    rw [List.drop_length]
    refine ⟨by simp only [loopM, hf s hI, foldO], fun s' h => ?_⟩
    simp only [foldO, Option.some.injEq] at h
    exact h ▸ hI
  | k + 1, i, s, hk, hI, n + 1, hn => by
    have hi : i < l.length := by omega
    obtain ⟨h1, h2⟩ := hb i s hi hI
    have hd : l.drop i = l.getD i default :: l.drop (i + 1) := by rw [List.drop_eq_getElem_cons hi]; simp [List.getD, hi]
    rw [hd]
    simp only [loopM, h1, foldO]
    cases hc : f s (l.getD i default) with
    | none => exact ⟨rfl, fun s' h => by cases h⟩
    | some s' => exact loop_foldO' l f out e J hb hf k (i + 1) s' (by omega) (h2 s' hc) n (by omega)
theorem loop_foldO {α σ ξ ρ : Type} [Inhabited α] (l : List α) (hl : l.length ≤ 1000000000000000) {body : Int × σ → Option ((Int × σ) ⊕ (ξ ⊕ ρ))} (f : σ → α → Option σ) (out : σ → ξ) (e : ρ) (J : Nat → σ → Prop) {s0 : σ} (h0 : J 0 s0)
    (hb : ∀ i s, i < l.length → J i s → body ((i : Int), s) = some (match f s (l.getD i default) with | some s' => .inl ((((i + 1 : Nat)) : Int), s') | none => .inr (.inr e)) ∧ ∀ s', f s (l.getD i default) = some s' → J (i + 1) s')
    (hf : ∀ s, J l.length s → body ((l.length : Int), s) = some (.inr (.inl (out s)))) :
    loopM body fuel (0, s0) = some (match foldO f s0 l with | some s => .inl (out s) | none => .inr e) ∧ ∀ s', foldO f s0 l = some s' → J l.length s' :=
  loop_foldO' l f out e J hb hf l.length 0 s0 (by omega) h0 fuel (by have := fuel_big; omega)

def bump (x h : THold) : THold := { x with State := max x.State h.State }
def upd (l : List THold) (h : THold) : List THold := l.map fun x => if isK h.Replica h.Number x = true then bump x h else x
def fits (x h : THold) : Prop := x.Amount = h.Amount ∧ x.Due = h.Due
instance (x h : THold) : Decidable (fits x h) := by unfold fits; infer_instance
def lookH (l : List THold) (r n : Int) : Option THold := l.find? (isK r n)
def jstep (ins : List THold → THold → List THold) (m : List THold) (h : THold) : Option (List THold) :=
  match lookH m h.Replica h.Number with
  | none => some (ins m h)
  | some x => if fits x h then some (upd m h) else none

theorem isK_iff {r n : Int} {x : THold} : isK r n x = true ↔ x.Replica = r ∧ x.Number = n := by simp [isK]
theorem Off.symm {a b : THold} (h : Off a b) : Off b a := by unfold Off at *; omega
theorem off_tri {l : List THold} (h : l.Pairwise Off) {i j : Nat} (hi : i < l.length) (hj : j < l.length) (hk : ¬ Off l[i] l[j]) : i = j := by
  rw [List.pairwise_iff_getElem] at h
  rcases Nat.lt_trichotomy i j with h1 | h1 | h1
  · exact (hk (h _ _ hi hj h1)).elim
  · exact h1
  · exact (hk (h _ _ hj hi h1).symm).elim
theorem sorted_off {l : List THold} (h : l.Pairwise HLt) : l.Pairwise Off := h.imp fun {a b} k => k.off.1
theorem lookH_iff {l : List THold} (h : l.Pairwise Off) {r n : Int} {x : THold} : lookH l r n = some x ↔ x ∈ l ∧ x.Replica = r ∧ x.Number = n := by
  constructor
  · intro hx
    exact ⟨List.mem_of_find?_eq_some hx, isK_iff.1 (List.find?_some hx)⟩
  · rintro ⟨hm, h1, h2⟩
    cases hc : lookH l r n with
    | none => rw [lookH, List.find?_eq_none] at hc; exact (hc x hm (isK_iff.2 ⟨h1, h2⟩)).elim
    | some y =>
      have hy := List.mem_of_find?_eq_some hc
      have hk := isK_iff.1 (List.find?_some hc)
      obtain ⟨i, hi, rfl⟩ := List.getElem_of_mem hm
      obtain ⟨j, hj, rfl⟩ := List.getElem_of_mem hy
      have := off_tri h hi hj (fun k => k ⟨by omega, by omega⟩)
      subst this; rfl
theorem lookH_none {l : List THold} {r n : Int} : lookH l r n = none ↔ ∀ x ∈ l, ¬ (x.Replica = r ∧ x.Number = n) := by
  rw [lookH, List.find?_eq_none]
  exact ⟨fun h x hx hk => h x hx (isK_iff.2 hk), fun h x hx hk => h x hx (isK_iff.1 hk)⟩
theorem lookH_perm {l m : List THold} (hp : l.Perm m) (ho : m.Pairwise Off) (r n : Int) : lookH l r n = lookH m r n := by
  have hl : l.Pairwise Off := hp.symm.pairwise ho fun h => h.symm
  cases hc : lookH m r n with
  | none => rw [lookH_none] at hc ⊢; exact fun x hx => hc x (hp.mem_iff.1 hx)
  | some x => rw [lookH_iff ho] at hc; rw [lookH_iff hl]; exact ⟨hp.mem_iff.2 hc.1, hc.2⟩
theorem bump_off {x h y g : THold} : Off (bump x h) (bump y g) ↔ Off x y := Iff.rfl
theorem upd_off {l : List THold} (h : THold) (ho : l.Pairwise Off) : (upd l h).Pairwise Off := by
  unfold upd
  rw [List.pairwise_map]
  refine ho.imp fun {a b} k => ?_
  unfold Off at *
  split <;> split <;> exact k
theorem upd_sorted {l : List THold} (h : THold) (ho : l.Pairwise HLt) : (upd l h).Pairwise HLt := by
  unfold upd
  rw [List.pairwise_map]
  refine ho.imp fun {a b} k => ?_
  unfold HLt at *
  split <;> split <;> exact k
theorem upd_set {l : List THold} (ho : l.Pairwise Off) {h : THold} {j : Nat} (hj : j < l.length) (hk : isK h.Replica h.Number (l.getD j default) = true) : l.set j (bump (l.getD j default) h) = upd l h ∧ lookH l h.Replica h.Number = some (l.getD j default) := by
  have e : l.getD j default = l[j] := by simp [List.getD, hj]
  rw [e] at hk ⊢
  refine ⟨?_, (lookH_iff ho).2 ⟨List.getElem_mem hj, isK_iff.1 hk⟩⟩
  apply List.ext_getElem (by simp [upd])
  intro i h1 h2
  simp only [List.getElem_set, upd, List.getElem_map]
  by_cases hij : j = i
  · subst hij; rw [if_pos rfl, if_pos hk]
  · rw [if_neg hij, if_neg]
    intro hk2
    refine hij (off_tri ho hj (by simpa using h1) fun k => k ?_)
    have := isK_iff.1 hk; have := isK_iff.1 hk2; omega

theorem jstep_perm {l m : List THold} (hp : l.Perm m) (ho : m.Pairwise Off) (h : THold) : (jstep (fun l h => l ++ [h]) l h = none ∧ jstep putS m h = none) ∨ ∃ l' m', jstep (fun l h => l ++ [h]) l h = some l' ∧ jstep putS m h = some m' ∧ l'.Perm m' := by
  unfold jstep
  rw [lookH_perm hp ho]
  cases lookH m h.Replica h.Number with
  | none => exact .inr ⟨_, _, rfl, rfl, (List.perm_append_comm.trans (hp.cons h)).trans (putS_perm h m).symm⟩
  | some x =>
    simp only
    by_cases hf : fits x h
    · rw [if_pos hf, if_pos hf]; exact .inr ⟨_, _, rfl, rfl, hp.map _⟩
    · rw [if_neg hf, if_neg hf]; exact .inl ⟨rfl, rfl⟩
theorem jstep_sorted {m m' : List THold} {h : THold} (hm : m.Pairwise HLt) (hj : jstep putS m h = some m') : m'.Pairwise HLt := by
  unfold jstep at hj
  cases hc : lookH m h.Replica h.Number with
  | none =>
    rw [hc] at hj; simp only [Option.some.injEq] at hj; subst hj
    exact putS_sorted h m hm fun x hx hk => lookH_none.1 hc x hx hk
  | some x =>
    rw [hc] at hj; simp only at hj
    split at hj
    · simp only [Option.some.injEq] at hj; subst hj; exact upd_sorted h hm
    · cases hj
theorem fold_perm : ∀ (b : List THold) {l m : List THold}, l.Perm m → m.Pairwise HLt → (foldO (jstep fun l h => l ++ [h]) l b = none ∧ foldO (jstep putS) m b = none) ∨ ∃ l' m', foldO (jstep fun l h => l ++ [h]) l b = some l' ∧ foldO (jstep putS) m b = some m' ∧ l'.Perm m' ∧ m'.Pairwise HLt
  | [], l, m, hp, hm => .inr ⟨l, m, rfl, rfl, hp, hm⟩
  | h :: b, l, m, hp, hm => by
    rcases jstep_perm hp (sorted_off hm) h with ⟨h1, h2⟩ | ⟨l', m', h1, h2, h3⟩
    · exact .inl ⟨by simp only [foldO, h1], by simp only [foldO, h2]⟩
    · simp only [foldO, h1, h2]
      exact fold_perm b h3 (jstep_sorted hm h2)

def Jn (a b : List THold) : Option (List THold) := foldO (jstep putS) a b
def JS (a b : List THold) : List THold × Int :=
  if Rts a ∧ Rts b then (match Jn a b with
    | none => ([], 1)
    | some m => if 16 < m.length then ([], 7) else (m, 0))
  else ([], 1)

theorem jstep_len {ins : List THold → THold → List THold} (hi : ∀ l h, (ins l h).length = l.length + 1) {m m' : List THold} {h : THold} (hj : jstep ins m h = some m') : m'.length ≤ m.length + 1 := by
  unfold jstep at hj
  split at hj
  · simp only [Option.some.injEq] at hj; subst hj; rw [hi]; omega
  · split at hj
    · simp only [Option.some.injEq] at hj; subst hj; simp [upd]
    · cases hj

/-- The inner loop: where the key stands. -/
theorem ref_L2 (b s : List THold) (i : Nat) (hi : i < b.length) (hb : i < 1000000000000) (hs : s.length ≤ 1000000000000) (ho : s.Pairwise Off) : ∃ z, loopM (usufructref06_Join_L2 b ((i : Int), s)) fuel (0, -1) = some z ∧ ((z.2.2.2 = -1 ∧ lookH s (b.getD i default).Replica (b.getD i default).Number = none) ∨ ∃ j : Nat, z.2.2.2 = (j : Int) ∧ j < s.length ∧ isK (b.getD i default).Replica (b.getD i default).Number (s.getD j default) = true) := by
  refine loopM_ind (fun k t => t.1 = (k : Int) ∧ ((t.2 = -1 ∧ ∀ j, j < k → isK (b.getD i default).Replica (b.getD i default).Number (s.getD j default) = false) ∨ ∃ j : Nat, t.2 = (j : Int) ∧ j < k ∧ isK (b.getD i default).Replica (b.getD i default).Number (s.getD j default) = true)) s.length (by omega) _ ?_ ?_ ⟨rfl, .inl ⟨rfl, fun j h => by omega⟩⟩
  · rintro k ⟨t1, t2⟩ hk ⟨h1, hI⟩
    simp only at h1 hI
    subst h1
    refine .inl ?_
    simp only [usufructref06_Join_L2, six_of hk, six_of hi, letM_eq, Option.bind]
    rw [if_pos (by simp; omega)]
    simp only [wr_succ (show k < 1000000000000000 by omega)]
    have hg : ∀ b : Bool, gd (b = true) (some k) = some (if b = true then k else default) := fun b => by cases b <;> rfl
    have hg2 : ∀ b : Bool, gd (b = true) (some i) = some (if b = true then i else default) := fun b => by cases b <;> rfl
    simp only [hg, hg2]
    by_cases hR : (s.getD k default).Replica = (b.getD i default).Replica
    · simp only [hR, decide_true, if_true, Bool.true_and]
      by_cases hN : (s.getD k default).Number = (b.getD i default).Number
      · rw [if_pos (by simpa only [decide_eq_true_eq] using hN)]
        exact ⟨_, rfl, rfl, .inr ⟨k, rfl, by omega, isK_iff.2 ⟨hR, hN⟩⟩⟩
      · rw [if_neg (by simpa only [decide_eq_true_eq] using hN)]
        refine ⟨_, rfl, rfl, ?_⟩
        rcases hI with ⟨e, hI⟩ | ⟨j, e, hj, hI⟩
        · refine .inl ⟨e, fun j hj => ?_⟩
          rcases Nat.lt_succ_iff_lt_or_eq.1 hj with h | rfl
          · exact hI j h
          · exact Bool.eq_false_iff.2 fun h => hN (isK_iff.1 h).2
        · exact .inr ⟨j, e, by omega, hI⟩
    · simp only [hR, decide_false, Bool.false_and]
      rw [if_neg Bool.false_ne_true]
      refine ⟨_, rfl, rfl, ?_⟩
      rcases hI with ⟨e, hI⟩ | ⟨j, e, hj, hI⟩
      · refine .inl ⟨e, fun j hj => ?_⟩
        rcases Nat.lt_succ_iff_lt_or_eq.1 hj with h | rfl
        · exact hI j h
        · exact Bool.eq_false_iff.2 fun h => hR (isK_iff.1 h).1
      · exact .inr ⟨j, e, by omega, hI⟩
  · rintro ⟨t1, t2⟩ ⟨h1, hI⟩
    simp only at h1 hI
    subst h1
    refine ⟨_, by simp only [usufructref06_Join_L2]; rw [if_neg (by simp)], ?_⟩
    rcases hI with ⟨e, hI⟩ | hI
    · refine .inl ⟨e, lookH_none.2 fun x hx hk => ?_⟩
      obtain ⟨j, hj, rfl⟩ := List.getElem_of_mem hx
      have := hI j hj
      rw [show s.getD j default = s[j] by simp [List.getD, hj], isK_iff.2 hk] at this
      cases this
    · exact .inr hI

theorem ref_Join_eq (a b : List THold) (ha : a.length ≤ 1000000) (hb : b.length ≤ 1000000) : usufructref06_Join a b = some (JS a b) := by
  unfold usufructref06_Join JS
  rw [ref_Rights_eq a (by omega)]
  simp only [Option.bind]
  by_cases h1 : Rts a
  · rw [gd_t (by simp [h1]), ref_Rights_eq b (by omega)]
    simp only []
    by_cases h2 : Rts b
    · rw [if_neg (by simp [h1, h2]), if_pos ⟨h1, h2⟩, app_of (by simp; omega)]
      simp only [List.nil_append]
      rw [(loop_foldO b (by omega) (jstep putS) id (([] : List THold), (1 : Int)) (fun i s => s.Pairwise HLt ∧ s.length ≤ a.length + i) ⟨h1.2.1, by omega⟩ (fun i s hi hJ => ⟨?_, fun s' hs => ⟨jstep_sorted hJ.1 hs, by have := jstep_len (fun l h => putS_length h l) hs; omega⟩⟩) (fun s hs => by simp [usufructref06_Join_L1])).1]
      · unfold Jn
        cases foldO (jstep putS) a b with
        | none => rfl
        | some m =>
          simp only [onS_l, id]
          by_cases h16 : 16 < m.length
          · rw [if_pos (by simp; omega), if_pos h16]
          · rw [if_neg (by simp; omega), if_neg h16]
      · have ho := sorted_off hJ.1
        obtain ⟨z, hz, hcase⟩ := ref_L2 b s i hi (by omega) (by omega) ho
        simp only [usufructref06_Join_L1, six_of hi, letM_eq, Option.bind]
        rw [if_pos (by simp; omega), hz]
        simp only [wr_succ (show i < 1000000000000000 by omega)]
        rcases hcase with ⟨e, hl⟩ | ⟨j, e, hj, hk⟩
        · rw [if_pos (by rw [e]; rfl), Put_own_eq _ _ (by omega)]
          simp only [jstep, hl]
        · obtain ⟨u1, u2⟩ := upd_set ho hj hk
          rw [if_neg (by rw [e]; simp), e]
          simp only [six_of hj, jstep, u2]
          by_cases hA : (s.getD j default).Amount = (b.getD i default).Amount
          · rw [gd_t (by rw [decide_eq_true hA]; rfl)]
            simp only []
            rw [gd_t (by rw [decide_eq_true hA]; rfl)]
            simp only []
            by_cases hD : (s.getD j default).Due = (b.getD i default).Due
            · rw [if_neg (by rw [decide_eq_true hA, decide_eq_true hD]; decide), if_pos ⟨hA, hD⟩, ← u1]
              rfl
            · rw [if_pos (by rw [decide_eq_false hD]; simp), if_neg (fun x => hD x.2)]
          · rw [gd_f (by rw [decide_eq_false hA]; decide)]
            simp only []
            rw [gd_f (by rw [decide_eq_false hA]; decide)]
            simp only []
            rw [if_pos (by rw [decide_eq_false hA]; rfl), if_neg (fun x => hA x.1)]
    · rw [if_pos (by simp [h2]), if_neg (fun x => h2 x.2)]
  · rw [gd_f (by simp [h1]), if_neg (fun x => h1 x.1)]
    simp [h1]
end Go.Av
