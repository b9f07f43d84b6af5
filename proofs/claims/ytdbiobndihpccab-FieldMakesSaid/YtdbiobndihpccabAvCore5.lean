/- A region that draws its order: where the steps are told in the text's order and the check 'dOK' holds, every order comes to the same. -/
import Derived.Test.YtdbiobndihpccabAvCore4
namespace Go.Av
set_option linter.unusedVariables false
set_option linter.unusedSimpArgs false

inductive Anc (ops : Array Oper) : Nat → Nat → Prop where
  | edge {i : Nat} {o : Oper} {e : Edge} (ho : ops[i]? = some o) (he : e ∈ o.after) (hb : Region.binds .any e = true) : Anc ops e.on i
  | trans {i j : Nat} {o : Oper} {e : Edge} (ho : ops[i]? = some o) (he : e ∈ o.after) (hb : Region.binds .any e = true) (h : Anc ops j e.on) : Anc ops j i

theorem before_inner (acc : Array Nat) (j : Nat) : ∀ (l : List Edge) (s : Nat), (l.foldl (fun s e => if Region.binds .any e then s ||| 2 ^ e.on ||| acc.getD e.on 0 else s) s).testBit j = true →
    s.testBit j = true ∨ ∃ e ∈ l, Region.binds .any e = true ∧ (j = e.on ∨ (acc.getD e.on 0).testBit j = true)
  | [], s, h => .inl h
  | e :: l, s, h => by
    simp only [List.foldl_cons] at h
    rcases before_inner acc j l _ h with h' | ⟨e', h1, h2, h3⟩
    · split at h'
      · rename_i hb
        simp only [Nat.testBit_or, Bool.or_eq_true] at h'
        rcases h' with (h' | h') | h'
        · exact .inl h'
        · rw [Nat.testBit_two_pow] at h'
          exact .inr ⟨e, by simp, hb, .inl (by simpa using (of_decide_eq_true h').symm)⟩
        · exact .inr ⟨e, by simp, hb, .inr h'⟩
      · exact .inl h'
    · exact .inr ⟨e', by simp [h1], h2, h3⟩

theorem before_outer (ops : Array Oper) : ∀ (l pre : List Oper) (acc : Array Nat), ops.toList = pre ++ l → acc.size = pre.length → (∀ i j, (acc.getD i 0).testBit j = true → Anc ops j i) →
    ∀ i j, ((l.foldl (fun acc o => acc.push (o.after.foldl (fun s e => if Region.binds .any e then s ||| 2 ^ e.on ||| acc.getD e.on 0 else s) 0)) acc).getD i 0).testBit j = true → Anc ops j i
  | [], _, _, _, _, h => h
  | o :: l, pre, acc, he, hs, h => by
    simp only [List.foldl_cons]
    refine before_outer ops l (pre ++ [o]) _ (by simp [he]) (by simp [hs]) ?_
    intro i j hb
    by_cases hi : i < acc.size
    · refine h i j ?_
      rw [Array.getD_eq_getD_getElem?] at hb ⊢
      rw [Array.getElem?_push_lt hi] at hb
      rw [Array.getElem?_eq_getElem hi]
      exact hb
    · by_cases hi2 : i = acc.size
      · subst hi2
        have ho : ops[acc.size]? = some o := by
          have : ops.toList[acc.size]? = some o := by rw [he, hs]; simp
          simpa using this
        rw [Array.getD_eq_getD_getElem?, Array.getElem?_push_size] at hb
        simp only [Option.getD_some] at hb
        rw [← Array.foldl_toList] at hb
        rcases before_inner acc j o.after.toList 0 hb with h' | ⟨e, h1, h2, h3⟩
        · simp at h'
        · have hm : e ∈ o.after := by simpa using h1
          rcases h3 with rfl | h3
          · exact .edge ho hm h2
          · exact .trans ho hm h2 (h _ _ h3)
      · rw [Array.getD_eq_getD_getElem?, Array.getElem?_eq_none (by simp; omega)] at hb
        simp at hb

theorem before_spec (ops : Array Oper) {i j : Nat} (h : ((Region.before ops).getD i 0).testBit j = true) : Anc ops j i := by
  unfold Region.before at h
  rw [← Array.foldl_toList] at h
  exact before_outer ops ops.toList [] #[] (by simp) rfl (by intro i j h; simp at h) i j h

def dstOf (ops : Array Oper) (i : Nat) : Option Tmp := (ops[i]?).bind (·.dst)
def looksOf (ops : Array Oper) (i : Nat) : List Tmp := match ops[i]? with | some o => o.looksAt ops | none => []

/-- The operation at a place of the order in which the steps are told. -/
def io (ord : List Nat) (p : Nat) : Nat := ord.getD p 0

def dPair (ops : Array Oper) (b : Array Nat) (ord : List Nat) (ks : List Kd) (p q : Nat) : Bool :=
  let i := io ord p
  let j := io ord q
  let bef (x y : Nat) : Bool := (b.getD y 0).testBit x
  let ordered := if q < p then bef j i else bef i j
  (match dstOf ops j with
   | none => true
   | some d => dstOf ops i != some d && (!(looksOf ops i).contains d || ordered)) &&
  (match ks.getD p .sil, ks.getD q .sil with
   | .eff, .sil => true
   | .eff, _ => ordered
   | .new, .sil => true
   | .new, .qui => q < p || ordered
   | .new, _ => ordered
   | _, _ => true) &&
  (match ks.getD p .sil, ks.getD q .sil with
   | .new, .qui => p < q && ordered || q < p
   | _, _ => true)

def dOK (ops : Array Oper) (ord : List Nat) (ks : List Kd) : Bool :=
  let b := Region.before ops
  ord.length == ops.size && (List.range ops.size).all (fun i => ord.contains i) && ord.all (fun i => i < ops.size) && decide ord.Nodup &&
  (List.range ops.size).all (fun i => match ops[i]? with | some o => o.after.all (fun e => !Region.binds .any e || e.on < i) | none => true) &&
  (List.range ops.size).all (fun p => (List.range ops.size).all fun q => p == q || dPair ops b ord ks p q)

theorem Steps.trace {P : Program} {ops : Array Oper} {n : Nat} {F : List AObj → Prop} : ∀ {l : List Nat} {m : Nat} {s s' : St} {ks : List Kd}, Steps P ops n F l s ks s' →
    ∃ (sts : Nat → St) (val : Nat → V), sts m = s ∧ sts (m + l.length) = s' ∧ (∀ p, p ≤ l.length → F (sts (m + p)).H) ∧
      ∀ p, p < l.length → ∃ o, ops[io l p]? = some o ∧ Stp P ops n o F (sts (m + p)) (ks.getD p .sil) (val (m + p)) (sts (m + p + 1))
  | [], m, s, s', ks, h => by
    cases h with
    | nil _ hF => exact ⟨fun _ => s, fun _ => .undef, rfl, rfl, fun p _ => hF, fun p h2 => by simp at h2⟩
  | i :: l, m, s, s', ks, h => by
    cases h with
    | @cons _ _ _ s₁ _ kd v ks' o ho hF hstp ht =>
      obtain ⟨sts, val, h1, h2, hinv, h3⟩ := Steps.trace (m := m + 1) ht
      refine ⟨fun i => if i = m then s else sts i, fun i => if i = m then v else val i, by simp, ?_, ?_, ?_⟩
      · simp only []
        rw [if_neg (by simp), show m + (i :: l).length = m + 1 + l.length from by simp; omega]
        exact h2
      · intro p hp
        cases p with
        | zero => simp only [Nat.add_zero, if_true]; exact hF
        | succ p =>
          simp only []
          rw [if_neg (by omega), show m + (p + 1) = m + 1 + p from by omega]
          exact hinv p (by simp at hp; omega)
      · intro p hp
        cases p with
        | zero =>
          refine ⟨o, by simpa [io] using ho, ?_⟩
          simp only [Nat.add_zero, if_true, List.getD_cons_zero]
          rw [if_neg (by omega), h1]
          exact hstp
        | succ p =>
          obtain ⟨o', ho', hs'⟩ := h3 p (by simpa using hp)
          refine ⟨o', by simpa [io] using ho', ?_⟩
          simp only []
          rw [if_neg (by omega), if_neg (by omega), if_neg (by omega), List.getD_cons_succ, show m + (p + 1) = m + 1 + p from by omega]
          exact hs'

structure Tr (P : Program) (ops : Array Oper) (n : Nat) (F : List AObj → Prop) (ord : List Nat) (ks : List Kd) (sts : Nat → St) (val : Nat → V) : Prop where
  step : ∀ p, p < ops.size → ∃ o, ops[io ord p]? = some o ∧ Stp P ops n o F (sts p) (ks.getD p .sil) (val p) (sts (p + 1))
  inv : ∀ p, p ≤ ops.size → F (sts p).H

section
variable {P : Program} {ops : Array Oper} {n : Nat} {F : List AObj → Prop} {ord : List Nat} {ks : List Kd} {sts : Nat → St} {val : Nat → V}

theorem Tr.look_none (T : Tr P ops n F ord ks sts val) {t : Tmp} : ∀ {i : Nat}, i ≤ ops.size → (∀ j, j < i → dstOf ops (io ord j) ≠ some t) → look (sts i).env t = look (sts 0).env t
  | 0, _, _ => rfl
  | i + 1, hi, h => by
    obtain ⟨o, ho, hs⟩ := T.step i (by omega)
    rw [hs.env.1]
    have hd : o.dst ≠ some t := fun e => h i (by omega) (by simp [dstOf, ho, e])
    have ih := T.look_none (t := t) (i := i) (by omega) (fun j hj => h j (by omega))
    cases hdst : o.dst with
    | none => simpa [putD] using ih
    | some d =>
      simp only [putD, look_cons]
      rw [if_neg (fun e => hd (by rw [hdst, e]))]
      exact ih

theorem Tr.look_some (T : Tr P ops n F ord ks sts val) {t : Tmp} : ∀ {i j : Nat}, i ≤ ops.size → j < i → dstOf ops (io ord j) = some t → (∀ k, j < k → k < i → dstOf ops (io ord k) ≠ some t) → look (sts i).env t = val j
  | 0, _, _, hj, _, _ => by omega
  | i + 1, j, hi, hj, hd, h => by
    obtain ⟨o, ho, hs⟩ := T.step i (by omega)
    rw [hs.env.1]
    by_cases e : j = i
    · subst e
      have : o.dst = some t := by simpa [dstOf, ho] using hd
      simp [this, putD, look_cons]
    · have hdi : o.dst ≠ some t := fun e' => h i (by omega) (by omega) (by simp [dstOf, ho, e'])
      have ih := T.look_some (t := t) (i := i) (j := j) (by omega) (by omega) hd (fun k h1 h2 => h k h1 (by omega))
      cases hdst : o.dst with
      | none => simpa [putD] using ih
      | some d =>
        simp only [putD, look_cons]
        rw [if_neg (fun e' => hdi (by rw [hdst, e']))]
        exact ih

theorem Tr.heap (T : Tr P ops n F ord ks sts val) : ∀ {x y : Nat}, x ≤ y → y ≤ ops.size → (∀ i, x ≤ i → i < y → ks.getD i .sil ≠ .eff) → ∃ X, (sts y).H = (sts x).H ++ X
  | x, y, hxy, hy, h => by
    obtain ⟨d, rfl⟩ : ∃ d, y = x + d := ⟨y - x, by omega⟩
    induction d with
    | zero => exact ⟨[], by simp⟩
    | succ d ih =>
      obtain ⟨o, ho, hs⟩ := T.step (x + d) (by omega)
      obtain ⟨X, hX⟩ := ih (by omega) (by omega) (fun i h1 h2 => h i h1 (by omega))
      rw [show x + (d + 1) = x + d + 1 from by omega]
      by_cases hn : ks.getD (x + d) .sil = .new
      · obtain ⟨Y, hY⟩ := hs.env.2.2.2 hn
        exact ⟨X ++ Y, by rw [hY, hX]; simp⟩
      · exact ⟨X, by rw [hs.env.2.2.1 (h (x + d) (by omega) (by omega)) hn]; exact hX⟩

theorem Tr.heapEq (T : Tr P ops n F ord ks sts val) : ∀ {x y : Nat}, x ≤ y → y ≤ ops.size → (∀ i, x ≤ i → i < y → ks.getD i .sil ≠ .eff ∧ ks.getD i .sil ≠ .new) → (sts y).H = (sts x).H
  | x, y, hxy, hy, h => by
    obtain ⟨d, rfl⟩ : ∃ d, y = x + d := ⟨y - x, by omega⟩
    induction d with
    | zero => rfl
    | succ d ih =>
      obtain ⟨o, ho, hs⟩ := T.step (x + d) (by omega)
      rw [show x + (d + 1) = x + d + 1 from by omega, hs.env.2.2.1 (h (x + d) (by omega) (by omega)).1 (h (x + d) (by omega) (by omega)).2]
      exact ih (by omega) (by omega) (fun i h1 h2 => h i h1 (by omega))

end

/-- What holds when the operations of 'L' have been done, in whatever order. -/
structure DInv (g₀ : Gh) (w₀ : World) (ops : Array Oper) (n : Nat) (ord : List Nat) (ks : List Kd) (sts : Nat → St) (val : Nat → V) (L : Nat → Prop) (g : Gh) (a : Act) (w : World) : Prop where
  down : ∀ (i : Nat) (o : Oper) (e : Edge), L i → ops[i]? = some o → e ∈ o.after → Region.binds .any e = true → L e.on
  size : a.tmps.size = n
  defers : a.defers = []
  done : ∀ (p : Nat) (t : Tmp), p < ops.size → L (io ord p) → dstOf ops (io ord p) = some t → RV g (val p) (a.tmps.getD t Go.undef)
  old : ∀ t : Tmp, (∀ p, p < ops.size → L (io ord p) → dstOf ops (io ord p) ≠ some t) → RV g (look (sts 0).env t) (a.tmps.getD t Go.undef)
  heap : ∃ c, c ≤ ops.size ∧ (∀ p, p < ops.size → (ks.getD p .sil = .eff ∨ ks.getD p .sil = .new) → (L (io ord p) ↔ p < c)) ∧ HR g (sts c).H w ∧ Ev g₀ (sts 0).H w₀ g (sts c).H w

theorem Anc.down {ops : Array Oper} {L : Nat → Prop} (hd : ∀ (i : Nat) (o : Oper) (e : Edge), L i → ops[i]? = some o → e ∈ o.after → Region.binds .any e = true → L e.on)
    {j i : Nat} (h : Anc ops j i) : L i → L j := by
  induction h with
  | edge ho he hb => exact fun hl => hd _ _ _ hl ho he hb
  | trans ho he hb _ ih => exact fun hl => ih (hd _ _ _ hl ho he hb)

theorem Anc.downR {ops : Array Oper} {L : Nat → Prop} (hd : ∀ (i : Nat) (o : Oper) (e : Edge), L i → ops[i]? = some o → e ∈ o.after → Region.binds .any e = true → L e.on)
    {j i : Nat} (h : Anc ops j i) (hr : ∀ (o : Oper) (e : Edge), ops[i]? = some o → e ∈ o.after → Region.binds .any e = true → L e.on) : L j := by
  cases h with
  | edge ho he hb => exact hr _ _ ho he hb
  | trans ho he hb h => exact h.down hd (hr _ _ ho he hb)

structure DSpec (ops : Array Oper) (ord : List Nat) (ks : List Kd) : Prop where
  len : ord.length = ops.size
  sur : ∀ i, i < ops.size → ∃ p, p < ops.size ∧ io ord p = i
  low : ∀ p, p < ops.size → io ord p < ops.size
  inj : ∀ p q, p < ops.size → q < ops.size → io ord p = io ord q → p = q
  edge : ∀ (i : Nat) (o : Oper) (e : Edge), ops[i]? = some o → e ∈ o.after → Region.binds .any e = true → e.on < i
  dst : ∀ p q d, p < ops.size → q < ops.size → p ≠ q → dstOf ops (io ord q) = some d → dstOf ops (io ord p) ≠ some d ∧ (d ∈ looksOf ops (io ord p) → (q < p → Anc ops (io ord q) (io ord p)) ∧ (p < q → Anc ops (io ord p) (io ord q)))
  eff : ∀ p q, p < ops.size → q < ops.size → p ≠ q → ks.getD p .sil = .eff → ks.getD q .sil ≠ .sil → (q < p → Anc ops (io ord q) (io ord p)) ∧ (p < q → Anc ops (io ord p) (io ord q))
  new : ∀ p q, p < ops.size → q < ops.size → p ≠ q → ks.getD p .sil = .new → ks.getD q .sil = .new → (q < p → Anc ops (io ord q) (io ord p)) ∧ (p < q → Anc ops (io ord p) (io ord q))
  newq : ∀ p q, p < ops.size → q < ops.size → p < q → ks.getD p .sil = .new → ks.getD q .sil = .qui → Anc ops (io ord p) (io ord q)

theorem dOK_spec {ops : Array Oper} {ord : List Nat} {ks : List Kd} (h : dOK ops ord ks = true) : DSpec ops ord ks := by
  unfold dOK at h
  simp only [Bool.and_eq_true, beq_iff_eq, List.all_eq_true, List.mem_range, List.contains_eq_mem, decide_eq_true_eq] at h
  obtain ⟨⟨⟨⟨⟨h1, h2⟩, h3⟩, h4⟩, h5⟩, h6⟩ := h
  have hb : ∀ (x y x' y' : Nat), (if x' < y' then ((Region.before ops).getD y 0).testBit x else ((Region.before ops).getD x 0).testBit y) = true → (x' < y' → Anc ops x y) ∧ (y' < x' → Anc ops y x) := by
    intro x y x' y' hxy
    constructor
    · intro hl; rw [if_pos hl] at hxy; exact before_spec ops hxy
    · intro hl; rw [if_neg (by omega)] at hxy; exact before_spec ops hxy
  have hget : ∀ p, p < ops.size → ord[p]? = some (io ord p) := by
    intro p hp
    have : p < ord.length := by omega
    simp [io, List.getD, this]
  have pair : ∀ p q, p < ops.size → q < ops.size → p ≠ q → dPair ops (Region.before ops) ord ks p q = true := by
    intro p q hp hq hne
    have := h6 p hp q hq
    simp only [Bool.or_eq_true, beq_iff_eq] at this
    exact this.resolve_left hne
  refine ⟨h1, ?_, ?_, ?_, ?_, ?_, ?_, ?_, ?_⟩
  · intro i hi
    obtain ⟨p, hp, e⟩ := List.mem_iff_getElem.1 (h2 i hi)
    exact ⟨p, by omega, by simp [io, List.getD, hp, e]⟩
  · intro p hp
    exact h3 _ (List.mem_of_getElem? (hget p hp))
  · intro p q hp hq e
    have hp' : p < ord.length := by omega
    have hq' : q < ord.length := by omega
    have e1 := hget p hp
    have e2 := hget q hq
    rw [e] at e1
    rw [List.getElem?_eq_getElem hp'] at e1
    rw [List.getElem?_eq_getElem hq'] at e2
    exact (List.getElem_inj (h₀ := hp') (h₁ := hq') h4).1 ((Option.some.inj e1).trans (Option.some.inj e2).symm)
  · intro i o e ho he hbd
    have hi : i < ops.size := (Array.getElem?_eq_some_iff.1 ho).1
    have := h5 i hi
    simp only [ho, Array.all_eq_true'] at this
    simpa [hbd] using this e he
  · intro p q d hp hq hne hd
    have := pair p q hp hq hne
    simp only [dPair, Bool.and_eq_true, hd, bne_iff_ne] at this
    refine ⟨this.1.1.1, fun hm => ?_⟩
    have h2 := this.1.1.2
    simp only [Bool.or_eq_true, Bool.not_eq_true', List.contains_eq_mem, decide_eq_false_iff_not] at h2
    rcases h2 with h2 | h2
    · exact absurd hm h2
    · exact hb _ _ q p h2
  · intro p q hp hq hne hkp hkq
    have := pair p q hp hq hne
    simp only [dPair, Bool.and_eq_true, hkp] at this
    have h2 := this.1.2
    cases hk : ks.getD q .sil with
    | sil => exact absurd hk hkq
    | qui => first | exact hb _ _ q p h2 | (rw [hk] at h2; exact hb _ _ q p h2)
    | new => first | exact hb _ _ q p h2 | (rw [hk] at h2; exact hb _ _ q p h2)
    | eff => first | exact hb _ _ q p h2 | (rw [hk] at h2; exact hb _ _ q p h2)
  · intro p q hp hq hne hkp hkq
    have := pair p q hp hq hne
    simp only [dPair, Bool.and_eq_true, hkp, hkq] at this
    exact hb _ _ q p this.1.2
  · intro p q hp hq hlt hkp hkq
    have := pair p q hp hq (by omega)
    simp only [dPair, Bool.and_eq_true, hkp, hkq] at this
    have h2 := this.2
    simp only [Bool.or_eq_true, Bool.and_eq_true, decide_eq_true_eq] at h2
    rcases h2 with ⟨_, h2⟩ | h2
    · exact (hb _ _ q p h2).2 hlt
    · omega

theorem ready_mem {ops : Array Oper} {listed : Array Bool} {i : Nat} (h : i ∈ Region.ready .any ops listed) :
    i < ops.size ∧ listed.getD i true = false ∧ ∃ o, ops[i]? = some o ∧ ∀ e ∈ o.after, Region.binds .any e = true → listed.getD e.on false = true := by
  unfold Region.ready at h
  simp only [List.mem_filter, List.mem_range, Bool.and_eq_true, Bool.not_eq_true'] at h
  obtain ⟨h1, h2, h3⟩ := h
  refine ⟨h1, h2, ?_⟩
  rw [Array.getElem?_eq_getElem h1] at h3 ⊢
  simp only [Option.map_some, Option.getD_some, Array.all_eq_true', Bool.or_eq_true, Bool.not_eq_true'] at h3
  refine ⟨_, rfl, fun e he hb => ?_⟩
  rcases h3 e he with h | h
  · rw [hb] at h; cases h
  · exact h

def isL (listed : Array Bool) (i : Nat) : Prop := listed.getD i false = true

theorem isL_set {listed : Array Bool} {i : Nat} (hi : i < listed.size) (j : Nat) : isL (listed.setIfInBounds i true) j ↔ (j = i ∨ isL listed j) := by
  unfold isL
  simp only [Array.getD_eq_getD_getElem?]
  by_cases e : j = i
  · subst e; simp [hi]
  · rw [Array.getElem?_setIfInBounds_ne (fun h => e h.symm)]; simp [e]

def left (listed : Array Bool) : Nat := (listed.toList.filter (· == false)).length

theorem left_set {listed : Array Bool} {i : Nat} (h : listed[i]? = some false) : left listed = left (listed.setIfInBounds i true) + 1 := by
  unfold left
  rw [Array.toList_setIfInBounds]
  have hl : listed.toList[i]? = some false := by simpa using h
  generalize listed.toList = l at hl
  clear h
  induction l generalizing i with
  | nil => simp at hl
  | cons x l ih =>
    cases i with
    | zero => simp at hl; subst hl; simp
    | succ i =>
      simp at hl
      have := ih (i := i) hl
      rw [List.set_cons_succ]
      cases x <;> simpa using this

theorem left_zero {listed : Array Bool} (h : left listed = 0) (i : Nat) (hi : i < listed.size) : isL listed i := by
  unfold left at h
  rw [List.length_eq_zero_iff, List.filter_eq_nil_iff] at h
  have hm : listed[i] ∈ listed.toList := by simp
  have := h _ hm
  simp at this
  simp [isL, Array.getD_eq_getD_getElem?, Array.getElem?_eq_getElem hi, this]

theorem DInv.step {P : Program} {ops : Array Oper} {n : Nat} {F : List AObj → Prop} {ord : List Nat} {ks : List Kd} {sts : Nat → St} {val : Nat → V} {Q : Exit → Act → World → Prop}
    (T : Tr P ops n F ord ks sts val) (hk : DSpec ops ord ks)
    {g₀ : Gh} {w₀ : World} {L L' : Nat → Prop} {g : Gh} {a : Act} {w : World} (h : DInv g₀ w₀ ops n ord ks sts val L g a w)
    {p : Nat} (hp : p < ops.size) (hn : ¬ L (io ord p)) (hr : ∀ (o : Oper) (e : Edge), ops[io ord p]? = some o → e ∈ o.after → Region.binds .any e = true → L e.on)
    (hL' : ∀ j, L' j ↔ (j = io ord p ∨ L j)) {K : Act → World → Prop}
    (hK : ∀ g' a' w', DInv g₀ w₀ ops n ord ks sts val L' g' a' w' → K a' w') :
    wpOp P ops Q (io ord p) K a w := by
  obtain ⟨o, ho, hs⟩ := T.step p hp
  have hlow : ∀ j, Anc ops j (io ord p) → L j := fun j hj => hj.downR h.down (fun o e => hr o e)
  have hhigh : ∀ j, Anc ops (io ord p) j → ¬ L j := fun j hj hl => hn (hj.down h.down hl)
  -- the temporaries that the operation looks at
  have hlook : ∀ t, t ∈ looksOf ops (io ord p) → RV g (look (sts p).env t) (a.tmps.getD t Go.undef) := by
    intro t ht
    by_cases hex : ∃ q, q < ops.size ∧ q ≠ p ∧ dstOf ops (io ord q) = some t
    · obtain ⟨q, hq, hne, hd⟩ := hex
      obtain ⟨hdi, hord⟩ := hk.dst p q t hp hq (fun e => hne e.symm) hd
      obtain ⟨o1, o2⟩ := hord ht
      have huniq : ∀ k, k < ops.size → k ≠ q → dstOf ops (io ord k) ≠ some t := by
        intro k hk' hkq hdk
        exact (hk.dst k q t hk' hq hkq hd).1 hdk
      rcases Nat.lt_or_ge q p with hl | hl
      · rw [T.look_some (i := p) (j := q) (by omega) hl hd (fun k h1 h2 => huniq k (by omega) (by omega))]
        exact h.done q t hq (hlow _ (o1 hl)) hd
      · rw [T.look_none (i := p) (by omega) (fun k hkl => huniq k (by omega) (by omega))]
        refine h.old t fun k hk' hkl hdk => ?_
        by_cases e : k = q
        · subst e; exact hhigh _ (o2 (by omega)) hkl
        · exact huniq k hk' e hdk
    · have hnone : ∀ q, q < ops.size → q ≠ p → dstOf ops (io ord q) ≠ some t := fun q hq hqp hd => hex ⟨q, hq, hqp, hd⟩
      rw [T.look_none (i := p) (by omega) (fun k hkl => hnone k (by omega) (by omega))]
      refine h.old t fun k hk' hkl hdk => ?_
      by_cases e : k = p
      · subst e; exact hn hkl
      · exact hnone k hk' e hdk
  have hops : ∀ x ∈ o.op.operands, RV g (ev (sts p).env x) (a.eval x) := by
    intro x hx
    cases x with
    | tmp t =>
      refine hlook t ?_
      simp only [looksOf, ho, Oper.looksAt, List.mem_append, List.mem_filterMap]
      exact .inl ⟨.tmp t, by simpa using hx, rfl⟩
    | const v => exact constV_rv g v
    | global b => trivial
    | func f => exact ⟨rfl, #[], #[], by simp [Act.eval, Value.cells], by simp [RVl], by simp [RVl]⟩
  have hgds : ∀ j want d, o.guard = some (j, want) → guardDst ops j = some d → RV g (look (sts p).env d) (a.tmps.getD d Go.undef) := by
    intro j want d h1 h2
    refine hlook d ?_
    simp only [looksOf, ho, Oper.looksAt, h1, List.mem_append]
    unfold guardDst at h2
    exact .inr (by rw [h2]; simp)
  obtain ⟨c, hc, hce, hHR, hEv⟩ := h.heap
  let changes : Nat → Prop := fun q => ks.getD q .sil = .eff ∨ ks.getD q .sil = .new
  -- the heap, for one that changes it
  have hheap : changes p → (sts p).H = (sts c).H := by
    intro hks
    have hE : ∀ e, e < ops.size → changes e → e ≠ p → (L (io ord e) ↔ e < p) := by
      intro e he hke hei
      have hord : (e < p → Anc ops (io ord e) (io ord p)) ∧ (p < e → Anc ops (io ord p) (io ord e)) := by
        rcases hks with hks | hks
        · exact hk.eff p e hp he (fun q => hei q.symm) hks (by rcases hke with q | q <;> rw [q] <;> simp)
        · rcases hke with hke | hke
          · have := hk.eff e p he hp hei hke (by rw [hks]; simp)
            exact ⟨this.2, this.1⟩
          · exact hk.new p e hp he (fun q => hei q.symm) hks hke
      constructor
      · intro hl
        rcases Nat.lt_or_ge e p with hlt | hge
        · exact hlt
        · exact absurd hl (hhigh _ (hord.2 (by omega)))
      · intro hlt; exact hlow _ (hord.1 hlt)
    rcases Nat.le_total p c with hic | hci
    · refine (T.heapEq hic hc ?_).symm
      intro e h1 h2
      have key : ¬ changes e := by
        intro hke
        have hl := (hce e (by omega) hke).2 h2
        by_cases hei : e = p
        · subst hei; exact hn hl
        · have := (hE e (by omega) hke hei).1 hl; omega
      exact ⟨fun q => key (.inl q), fun q => key (.inr q)⟩
    · refine T.heapEq hci (by omega) ?_
      intro e h1 h2
      have key : ¬ changes e := by
        intro hke
        have hl := (hE e (by omega) hke (by omega)).2 h2
        have := (hce e (by omega) hke).1 hl; omega
      exact ⟨fun q => key (.inl q), fun q => key (.inr q)⟩
  -- the heap, for one that looks at it
  have hlookH : ks.getD p .sil = .qui → ∃ X, (sts c).H = (sts p).H ++ X := by
    intro hks
    rcases Nat.le_total p c with hic | hci
    · refine T.heap hic hc ?_
      intro e h1 h2 hke
      have hl := (hce e (by omega) (.inl hke)).2 h2
      by_cases hei : e = p
      · subst hei; exact hn hl
      · exact hhigh _ ((hk.eff e p (by omega) hp hei hke (by rw [hks]; simp)).1 (by omega)) hl
    · have := T.heapEq hci (by omega) ?_
      · exact ⟨[], by rw [this]; simp⟩
      · intro e h1 h2
        have key : ¬ changes e := by
          intro hke
          have hl : L (io ord e) := by
            rcases hke with hke | hke
            · exact hlow _ ((hk.eff e p (by omega) hp (by omega) hke (by rw [hks]; simp)).2 h2)
            · exact hlow _ (hk.newq e p (by omega) hp h2 hke hks)
          have := (hce e (by omega) hke).1 hl; omega
        exact ⟨fun q => key (.inl q), fun q => key (.inr q)⟩
  refine hs.run (g := g) (H := (sts c).H) (H' := if ks.getD p .sil = .eff ∨ ks.getD p .sil = .new then (sts (p + 1)).H else (sts c).H) hops hgds (T.inv c hc) ?_ hHR ho ?_
  · cases hks : ks.getD p .sil with
    | sil => exact .inl ⟨rfl, by simp⟩
    | qui => exact .inr (.inl ⟨rfl, hlookH hks, by simp⟩)
    | new => exact .inr (.inr ⟨by simp, (hheap (.inr hks)).symm, by simp⟩)
    | eff => exact .inr (.inr ⟨by simp, (hheap (.inl hks)).symm, by simp⟩)
  · intro g' x w' hv hr' hev
    refine hK g' _ w' ?_
    have hdst : dstOf ops (io ord p) = o.dst := by simp [dstOf, ho]
    refine ⟨?_, by rw [size_put]; exact h.size, by cases hq : o.dst <;> (first | exact h.defers | simpa [Act.put] using h.defers), ?_, ?_, ?_⟩
    · intro j o' e hl ho' he hb
      rw [hL'] at hl ⊢
      rcases hl with rfl | hl
      · exact .inr (hr o' e ho' he hb)
      · exact .inr (h.down j o' e hl ho' he hb)
    · intro q t hq hl hd
      rw [hL'] at hl
      cases hod : o.dst with
      | none =>
        rcases hl with hl | hl
        · rw [hl, hdst, hod] at hd; cases hd
        · simpa [Act.put] using (h.done q t hq hl hd).mono hev.le
      | some d =>
        have hdn : d < n := by simpa [okDst, hod] using hs.env.2.1
        rw [getD_put a d t x (by rw [h.size]; exact hdn)]
        by_cases hji : q = p
        · subst hji
          rw [hdst, hod] at hd
          cases hd
          simpa using hv
        · have hl' : L (io ord q) := hl.resolve_left (fun e => hji (hk.inj q p hq hp e))
          have := (hk.dst p q t hp hq (fun e => hji e.symm) hd).1
          rw [hdst, hod] at this
          rw [if_neg (fun e => this (by rw [e]))]
          exact (h.done q t hq hl' hd).mono hev.le
    · intro t ht
      have h1 : ∀ q, q < ops.size → L (io ord q) → dstOf ops (io ord q) ≠ some t := fun q hq hl => ht q hq ((hL' _).2 (.inr hl))
      have h2 : dstOf ops (io ord p) ≠ some t := ht p hp ((hL' _).2 (.inl rfl))
      cases hod : o.dst with
      | none => simpa [Act.put] using (h.old t h1).mono hev.le
      | some d =>
        rw [hdst, hod] at h2
        have hdn : d < n := by simpa [okDst, hod] using hs.env.2.1
        rw [getD_put a d t x (by rw [h.size]; exact hdn), if_neg (fun e => h2 (by rw [e]))]
        exact (h.old t h1).mono hev.le
    · refine ⟨if ks.getD p .sil = .eff ∨ ks.getD p .sil = .new then p + 1 else c, by split <;> omega, ?_, by split <;> (rename_i hq; first | (rw [if_pos hq] at hr'; exact hr') | (rw [if_neg hq] at hr'; exact hr')),
        hEv.trans (by split <;> (rename_i hq; first | (rw [if_pos hq] at hev; exact hev) | (rw [if_neg hq] at hev; exact hev)))⟩
      intro e he hke
      rw [hL']
      split
      · rename_i hki
        by_cases hei : e = p
        · subst hei; simp
        · have hne : io ord e ≠ io ord p := fun q => hei (hk.inj e p he hp q)
          have hord : (e < p → Anc ops (io ord e) (io ord p)) ∧ (p < e → Anc ops (io ord p) (io ord e)) := by
            rcases hki with hks | hks
            · exact hk.eff p e hp he (fun q => hei q.symm) hks (by rcases hke with q | q <;> rw [q] <;> simp)
            · rcases hke with hke | hke
              · have := hk.eff e p he hp hei hke (by rw [hks]; simp)
                exact ⟨this.2, this.1⟩
              · exact hk.new p e hp he (fun q => hei q.symm) hks hke
          constructor
          · rintro (hq | hl)
            · exact absurd hq hne
            · rcases Nat.lt_or_ge e p with hlt | hge
              · omega
              · exact absurd hl (hhigh _ (hord.2 (by omega)))
          · intro hlt
            exact .inr (hlow _ (hord.1 (by omega)))
      · rename_i hki
        have hei : e ≠ p := fun q => hki (q ▸ hke)
        have hne : io ord e ≠ io ord p := fun q => hei (hk.inj e p he hp q)
        constructor
        · rintro (hq | hl)
          · exact absurd hq hne
          · exact (hce e he hke).1 hl
        · intro hlt; exact .inr ((hce e he hke).2 hlt)

theorem DInv.all {P : Program} {ops : Array Oper} {n : Nat} {F : List AObj → Prop} {ord : List Nat} {ks : List Kd} {sts : Nat → St} {val : Nat → V} {Q : Exit → Act → World → Prop}
    (T : Tr P ops n F ord ks sts val) (hk : DSpec ops ord ks)
    {g₀ : Gh} {w₀ : World} (hq : ∀ g a w, RAct g n (sts ops.size).env a → HR g (sts ops.size).H w → Ev g₀ (sts 0).H w₀ g (sts ops.size).H w → Q .normal a w) :
    ∀ (fuel : Nat) (listed : Array Bool) (g : Gh) (a : Act) (w : World), listed.size = ops.size → left listed = fuel → DInv g₀ w₀ ops n ord ks sts val (isL listed) g a w → wpAny P .any ops Q fuel listed a w := by
  have fin : ∀ (listed : Array Bool) (g : Gh) (a : Act) (w : World), listed.size = ops.size → (∀ i, i < ops.size → isL listed i) → DInv g₀ w₀ ops n ord ks sts val (isL listed) g a w → Q .normal a w := by
    intro listed g a w hs hall h
    obtain ⟨c, hc, hce, hHR, hEv⟩ := h.heap
    have hH : (sts ops.size).H = (sts c).H := by
      refine T.heapEq hc (Nat.le_refl _) fun i h1 h2 => ?_
      have key : ¬ (ks.getD i .sil = .eff ∨ ks.getD i .sil = .new) := by
        intro hki
        have := (hce i h2 hki).1 (hall _ (hk.low i h2))
        omega
      exact ⟨fun q => key (.inl q), fun q => key (.inr q)⟩
    refine hq g a w ⟨fun t => ?_, h.size, h.defers⟩ (by rw [hH]; exact hHR) (by rw [hH]; exact hEv)
    by_cases hex : ∃ q, q < ops.size ∧ dstOf ops (io ord q) = some t
    · obtain ⟨j, hj, hd⟩ := hex
      rw [T.look_some (i := ops.size) (j := j) (Nat.le_refl _) hj hd (fun k h1 h2 hdk => (hk.dst k j t h2 hj (by omega) hd).1 hdk)]
      exact h.done j t hj (hall _ (hk.low j hj)) hd
    · rw [T.look_none (i := ops.size) (Nat.le_refl _) (fun k hk' hd => hex ⟨k, hk', hd⟩)]
      exact h.old t fun i hi _ hd => hex ⟨i, hi, hd⟩
  have rdy : ∀ (listed : Array Bool), listed.size = ops.size → Region.ready .any ops listed = [] → ∀ i, i < ops.size → isL listed i := by
    intro listed hs hr i
    induction i using Nat.strongRecOn with
    | _ i ih =>
      intro hi
      refine Classical.byContradiction fun hn => ?_
      have hm : i ∈ Region.ready .any ops listed := by
        unfold Region.ready
        simp only [List.mem_filter, List.mem_range, Bool.and_eq_true, Bool.not_eq_true']
        refine ⟨hi, ?_, ?_⟩
        · have hil : i < listed.size := by omega
          have hn' : ¬ listed.getD i false = true := hn
          rw [Array.getD_eq_getD_getElem?, Array.getElem?_eq_getElem hil] at hn' ⊢
          simpa using hn'
        · rw [Array.getElem?_eq_getElem hi]
          simp only [Option.map_some, Option.getD_some, Array.all_eq_true', Bool.or_eq_true, Bool.not_eq_true']
          intro e he
          cases hb : Region.binds .any e with
          | false => exact .inl rfl
          | true =>
            have hlt := hk.edge i _ e (Array.getElem?_eq_getElem hi) he hb
            exact .inr (ih e.on hlt (by omega))
      rw [hr] at hm
      cases hm
  intro fuel
  induction fuel with
  | zero =>
    intro listed g a w hs hl h
    have hall : ∀ i, i < ops.size → isL listed i := fun i hi => left_zero hl i (by omega)
    refine ⟨?_, fin listed g a w hs hall h⟩
    refine List.eq_nil_iff_forall_not_mem.2 fun i hm => ?_
    obtain ⟨h1, h2, _⟩ := ready_mem hm
    have := hall i h1
    unfold isL at this
    rw [Array.getD_eq_getD_getElem?, Array.getElem?_eq_getElem (by omega)] at this h2
    simp at this h2
    rw [this] at h2
    cases h2
  | succ fuel ih =>
    intro listed g a w hs hl h
    refine ⟨fun hr => fin listed g a w hs (rdy listed hs hr) h, fun i hm => ?_⟩
    obtain ⟨h1, h2, o, ho, h3⟩ := ready_mem hm
    have hil : i < listed.size := by omega
    have hfalse : listed[i]? = some false := by
      rw [Array.getD_eq_getD_getElem?, Array.getElem?_eq_getElem hil] at h2
      simp at h2
      rw [Array.getElem?_eq_getElem hil, h2]
    obtain ⟨p, hp, rfl⟩ := hk.sur i h1
    refine h.step (L' := isL (listed.setIfInBounds (io ord p) true)) T hk hp ?_ ?_ (fun j => isL_set hil j) ?_
    · intro hL
      unfold isL at hL
      rw [Array.getD_eq_getD_getElem?, hfalse] at hL
      cases hL
    · intro o' e ho' he hb
      rw [ho] at ho'
      cases ho'
      exact h3 e he hb
    · intro g' a' w' hd
      refine ih _ g' a' w' (by simpa using hs) ?_ hd
      have := left_set hfalse
      omega

theorem left_start (n : Nat) : left (Array.replicate n false) = n := by
  simp [left, Array.toList_replicate]

theorem isL_start (n i : Nat) : ¬ isL (Array.replicate n false) i := by
  unfold isL
  rw [Array.getD_eq_getD_getElem?]
  by_cases h : i < n <;> simp [h]

/-- A region that draws its order: the steps are told in one of its orders. -/
theorem Steps.regionD {P : Program} {F : List AObj → Prop} (hm : P.follows .mixedOrders = true) {id : Nat} {ops : Array Oper} {n : Nat} {Q : Exit → Act → World → Prop} {s s' : St} {ord : List Nat} {ks : List Kd}
    (h : Steps P ops n F ord s ks s') (hd : dOK ops ord ks = true)
    {g : Gh} {a : Act} {w : World} (ha : RAct g n s.env a) (hr : HR g s.H w) (hq : ∀ g' a' w', RAct g' n s'.env a' → HR g' s'.H w' → Ev g s.H w g' s'.H w' → Q .normal a' w') :
    (Code.region id ops true).wp P Q a w := by
  have hk := dOK_spec hd
  obtain ⟨sts, val, e1, e2, e4, e3⟩ := h.trace (m := 0)
  simp only [Nat.zero_add, hk.len] at e1 e2 e3 e4
  subst e1
  subst e2
  have T : Tr P ops n F ord ks sts val := ⟨e3, e4⟩
  have key : wpAny P .any ops Q ops.size (Array.replicate ops.size false) a { w with drawn := w.drawn + 1 } := by
    have hr' : HR g (sts 0).H { w with drawn := w.drawn + 1 } := hr.drew rfl
    have hev : Ev g (sts 0).H w g (sts 0).H { w with drawn := w.drawn + 1 } := Ev.drew rfl rfl rfl rfl (by show w.drawn ≤ w.drawn + 1; omega)
    refine DInv.all (g₀ := g) (w₀ := w) T hk (fun g' a' w' h1 h2 h3 => hq g' a' w' h1 h2 h3) ops.size _ g a _ (by simp) (left_start _) ?_
    exact ⟨fun i _ _ hl => absurd hl (isL_start _ i), ha.size, ha.defers, fun p _ _ hl => absurd hl (isL_start _ _), fun t _ => ha.env t,
      0, Nat.zero_le _, fun p _ _ => ⟨fun hl => absurd hl (isL_start _ _), fun hl => by omega⟩, hr', hev⟩
  exact wp_region_any hm key

/-- A region that draws no order. -/
theorem Steps.regionN {P : Program} {F : List AObj → Prop} {id : Nat} {ops : Array Oper} {n : Nat} {Q : Exit → Act → World → Prop} {s s' : St} {ks : List Kd}
    (h : Steps P ops n F (List.range ops.size) s ks s') {g : Gh} {a : Act} {w : World} (ha : RAct g n s.env a) (hr : HR g s.H w)
    (hq : ∀ g' a' w', RAct g' n s'.env a' → HR g' s'.H w' → Ev g s.H w g' s'.H w' → Q .normal a' w') :
    (Code.region id ops false).wp P Q a w := wp_region (h.run ha hr hq)

end Go.Av
